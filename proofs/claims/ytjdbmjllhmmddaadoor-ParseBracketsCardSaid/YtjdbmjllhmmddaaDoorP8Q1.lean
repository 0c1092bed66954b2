/- Parts of the proof of a law, in build order: Ae12, Ae13, Ae14, Ae15, Ae16, Ae17. -/
import Derived.Test.YtjdbmjllhmmddaaDoorP8Q0
import Derived.Shelf.Abstract
import Derived.Orders
import Derived.OrdersHeld
import Derived.KernelRfl
import Derived.Scope
import Derived.Below
import Derived.Laws.AppendOwn
import Derived.Lib.ConvBytes
set_option maxRecDepth 2000
set_option linter.unusedVariables false
set_option linter.unusedSimpArgs false
/- All operations of a walk: that the model does the same. -/
set_option linter.unusedVariables false
set_option linter.unusedSimpArgs false
namespace Go.AE

section
variable {P : Program} {T : Tab} {E : Ent} {g : Gh} {fr : Fr} {σ : St} {a : Act} {w : World}

def isPure : Op → Bool
  | .move _ | .assign _ | .pick .. | .build .. | .nilCheck _ | .binOp .. | .unOp .. | .convert .. | .slice .. | .fieldAddr .. | .field .. | .indexAddr .. | .index .. | .makeInterface .. | .makeFunc .. | .extract .. => true
  | .call c => match c.callee with | .builtin .len => true | .builtin .min => true | .builtin .max => true | _ => false
  | _ => false

def isStore : Op → Bool
  | .store .. => true
  | _ => false

theorem GLE.refl (g : Gh) (tk : List Nat) : GLE g g tk tk := ⟨VLE.refl _, fun _ _ => rfl, fun _ _ => rfl, Nat.le_refl _, Nat.le_refl _, Nat.le_refl _, fun t ht _ => ⟨ht, rfl, rfl, rfl⟩⟩

def Yld (P : Program) (g : Gh) (tk : List Nat) (o : Oper) (a : Act) (v : AV) : Prop := ∃ z, (∀ w, (execOp a.eval o).run P w = .ok (.value z) w) ∧ VR g tk v z

def tgt (fr : Fr) : Op → Option AV
  | .store _ x _ => some (ev fr x)
  | _ => none

theorem Kp.x {g : Gh} {w w' : World} {t : Option AV} (h : Kp g w w') : KpX t g w w' := ⟨fun j hj _ => h.1 j hj, fun j hj _ => h.2 j hj⟩

def Does (P : Program) (E : Ent) (g : Gh) (tk : List Nat) (tg : Option AV) (o : Oper) (a : Act) (w : World) (v : AV) (fr' : Fr) (σ' : St) : Prop :=
  ∃ nx z g' w', (execOp a.eval o).run P w = .ok nx w' ∧ (nx = .value z ∨ (nx = .skip ∧ z = undef)) ∧ Rel E g' fr' σ' a w' ∧ VR g' fr'.tk v z ∧ GLE g g' tk fr'.tk ∧ KpX tg g w w'

theorem Does.pure {o : Oper} {v : AV} {tg : Option AV} (R : Rel E g fr σ a w) {z : Value} (h : (execOp a.eval o).run P w = .ok (.value z) w) (hv : VR g fr.tk v z) : Does P E g fr.tk tg o a w v fr σ :=
  ⟨_, z, g, w, h, .inl rfl, R, hv, GLE.refl _ _, fun _ _ _ => rfl, fun _ _ _ => rfl⟩

theorem VRs_ev (R : Rel E g fr σ a w) : ∀ (l : List Operand), VRs g fr.tk (l.map (ev fr)) (l.map a.eval)
  | [] => rfl
  | x :: l => ⟨_, _, rfl, VR_ev' R x, VRs_ev R l⟩

theorem part_agg (hT : TabOK P T) {t : TypeId} {b : Bool} {n off : Nat} {cs : List AV} {vs : List Value} {v : AV} (hb : ∀ w : World, (isAgg t).run P w = .ok b w ∧ (sizeOf t).run P w = .ok n w) (hv : CRs g.V cs vs) (h1 : ∀ x ∈ vs, x.oneCell' = true)
    (h : partA b cs off n = some v) : ∃ z, (∀ w, (part t vs.toArray off).run P w = .ok z w) ∧ CR g.V v z := by
  have k1 := fun w => (hb w).1
  have k2 := fun w => (hb w).2
  cases b with
  | true =>
    simp only [partA, Option.some.injEq] at h
    subst h
    refine ⟨.agg ((vs.drop off).take n).toArray, fun w => ?_, ?_⟩
    · simp only [part, Sem.run_bind, k1, k2, Result.andThen_ok, if_true, Sem.run_pure]
      congr 2
      apply Array.ext'
      simp [List.extract, Nat.add_sub_cancel_left]
    · simp only [CR]
      exact ⟨_, rfl, CRs_take n (CRs_drop off hv), fun x hx => h1 x (List.mem_of_mem_drop (List.mem_of_mem_take hx))⟩
  | false =>
    obtain ⟨z, hz, hr⟩ := CRs_get off v hv h
    refine ⟨z, fun w => ?_, hr⟩
    simp [part, k1, hz]

theorem aop_sound (hT : TabOK P T) {o : Oper} {hp : Bool} (R : Rel E g fr σ a w) {v : AV} {fr' : Fr} {σ' : St} {ob : Prop} (h : aop T hp o.op fr σ = some (v, fr', σ', ob)) (hob : ob) :
    (isPure o.op = true → Yld P g fr.tk o a v ∧ fr' = fr ∧ σ' = σ) ∧ Does P E g fr.tk (tgt fr o.op) o a w v fr' σ' := by
  obtain ⟨dst, op, type, pos, after, guard⟩ := o
  simp only at h
  have pur : ∀ {z : Value}, (∀ w, (execOp a.eval ⟨dst, op, type, pos, after, guard⟩).run P w = .ok (.value z) w) → VR g fr.tk v z → fr' = fr → σ' = σ →
      (isPure op = true → Yld P g fr.tk ⟨dst, op, type, pos, after, guard⟩ a v ∧ fr' = fr ∧ σ' = σ) ∧ Does P E g fr.tk (tgt fr op) ⟨dst, op, type, pos, after, guard⟩ a w v fr' σ' := fun {z} h1 h2 h3 h4 => by
    subst h3; subst h4; exact ⟨fun _ => ⟨⟨z, h1, h2⟩, rfl, rfl⟩, Does.pure R (h1 w) h2⟩
  have eff : ∀ {z : Value} {g' : Gh} {w' : World}, isPure op = false → (execOp a.eval ⟨dst, op, type, pos, after, guard⟩).run P w = .ok (.value z) w' → Rel E g' fr' σ' a w' → VR g' fr'.tk v z → GLE g g' fr.tk fr'.tk → Kp g w w' →
      (isPure op = true → Yld P g fr.tk ⟨dst, op, type, pos, after, guard⟩ a v ∧ fr' = fr ∧ σ' = σ) ∧ Does P E g fr.tk (tgt fr op) ⟨dst, op, type, pos, after, guard⟩ a w v fr' σ' := fun {z g' w'} h0 h1 h2 h3 h4 h5 =>
    ⟨fun h => (by rw [h0] at h; cases h), ⟨_, z, g', w', h1, .inl rfl, h2, h3, h4, h5.x⟩⟩
  cases op with
  | move x =>
    simp only [aop, Option.some.injEq, Prod.mk.injEq] at h
    obtain ⟨rfl, rfl, rfl, rfl⟩ := h
    exact pur (fun w => by simp [execOp]) (VR_ev' R x) rfl rfl
  | assign x =>
    simp only [aop, Option.some.injEq, Prod.mk.injEq] at h
    obtain ⟨rfl, rfl, rfl, rfl⟩ := h
    exact pur (fun w => by simp [execOp]) (VR_ev' R x) rfl rfl
  | pick c x y =>
    simp only [aop] at h
    split at h
    · rename_i t hc
      simp only [Option.some.injEq, Prod.mk.injEq] at h
      obtain ⟨rfl, rfl, rfl, rfl⟩ := h
      have hcv := VR_ev' R c
      rw [hc] at hcv
      have hcv : a.eval c = .bool t := by simpa [VR, CR] using hcv
      cases t with
      | true => exact pur (z := a.eval x) (fun w => by simp [execOp, hcv, asBool]) (VR_ev' R x) rfl rfl
      | false => exact pur (z := a.eval y) (fun w => by simp [execOp, hcv, asBool]) (VR_ev' R y) rfl rfl
    · cases h
  | alloc t =>
    simp only [aop] at h
    split at h
    · rename_i cs ht
      obtain ⟨z, hz, hc, h1⟩ := hT.zero t cs ht
      have hrun : (execOp a.eval ⟨dst, .alloc t, type, pos, after, guard⟩).run P w = .ok (.value (.pointer (some ⟨w.heap.size, 0, none⟩))) (w.alloc (.cells z.cells t (0, 0))) := by
        simp [execOp, Instr.alloc, hz, newVar, newRow]
      split at h
      · simp only [Option.some.injEq, Prod.mk.injEq] at h
        obtain ⟨rfl, rfl, rfl, rfl⟩ := h
        obtain ⟨g', R', hv, hGG⟩ := R.newObj t (hc g.V) h1
        exact eff rfl hrun R' hv hGG (Kp_alloc R _)
      · simp only [Option.some.injEq, Prod.mk.injEq] at h
        obtain ⟨rfl, rfl, rfl, rfl⟩ := h
        obtain ⟨g', R', hv, hGG⟩ := R.newBox t (VRs_of_CRs (hc g.V)) h1
        exact eff rfl hrun R' hv hGG (Kp_alloc R _)
    · cases h
  | box t x =>
    simp only [aop] at h
    split at h
    · rename_i cs hcs
      obtain ⟨hc, h1⟩ := cellsOf_sound (VR_ev' R x) hcs
      have hrun : (execOp a.eval ⟨dst, .box t x, type, pos, after, guard⟩).run P w = .ok (.value (.pointer (some ⟨w.heap.size, 0, none⟩))) (w.alloc (.cells (a.eval x).cells t (0, 0))) := by
        simp [execOp, Instr.box, newVar, newRow]
      split at h
      · split at h
        · rename_i us hus
          simp only [Option.some.injEq, Prod.mk.injEq] at h
          obtain ⟨rfl, rfl, rfl, rfl⟩ := h
          obtain ⟨g', R', hv, hGG⟩ := R.newObj t (CRs_of_VRs hc hus) h1
          exact eff rfl hrun R' hv hGG (Kp_alloc R _)
        · cases h
      · simp only [Option.some.injEq, Prod.mk.injEq] at h
        obtain ⟨rfl, rfl, rfl, rfl⟩ := h
        obtain ⟨g', R', hv, hGG⟩ := R.newBox t hc h1
        exact eff rfl hrun R' hv hGG (Kp_alloc R _)
    · cases h
  | build t parts =>
    simp only [aop] at h
    split at h
    · rename_i pl cs ht
      split at h
      · rename_i r hr
        simp only [Option.some.injEq, Prod.mk.injEq] at h
        obtain ⟨rfl, rfl, rfl, rfl⟩ := h
        obtain ⟨z, hz, hv⟩ := build_sound hT R ht hr
        exact pur (fun w => by simp only [execOp, Sem.run_bind, hz w, Result.andThen_ok, Sem.run_pure]) hv rfl rfl
      · cases h
    · cases h
  | buildSlice t len parts =>
    simp only [aop] at h
    split at h
    · rename_i e n b by_ ht
      split at h
      · rename_i zc hz
        obtain ⟨hb, h⟩ := chk_some h
        simp only [Bool.and_eq_true] at hb
        split at h
        · rename_i r hr
          simp only [Option.some.injEq, Prod.mk.injEq] at h
          obtain ⟨rfl, rfl, rfl, rfl⟩ := h
          obtain ⟨z, g', w', h1, R', hv, hGG, o, ho⟩ := buildSlice_sound hT R ht hz (Nat.le_of_ble_eq_true hb.2) (Nat.eq_of_beq_eq_true hb.1) hr
          exact eff rfl (by simp only [execOp, Sem.run_bind, h1, Result.andThen_ok, Sem.run_pure]) R' hv hGG (by rw [ho]; exact Kp_alloc R o)
        · cases h
      · cases h
    · cases h
  | load t x =>
    simp only [aop] at h
    split at h
    · rename_i u ob' hl
      simp only [Option.some.injEq, Prod.mk.injEq] at h
      obtain ⟨rfl, rfl, rfl, rfl⟩ := h
      obtain ⟨z, hz, hv⟩ := aload_sound hT R hl hob (VR_ev' R x)
      exact ⟨fun h => (by cases h), Does.pure R (by simp only [execOp, Sem.run_bind, hz, Result.andThen_ok, Sem.run_pure]) hv⟩
    · cases h
  | store t x y =>
    simp only [aop] at h
    split at h
    · rename_i f' s' ob' hl
      simp only [Option.some.injEq, Prod.mk.injEq] at h
      obtain ⟨rfl, rfl, rfl, rfl⟩ := h
      obtain ⟨g', w', hz, R', hGG, hKX⟩ := astore_sound hT R hl hob (VR_ev' R x) (VR_ev' R y)
      exact ⟨fun h => (by cases h), .skip, undef, g', w', by simp only [execOp, Sem.run_bind, hz, Result.andThen_ok, Sem.run_pure], .inr ⟨rfl, rfl⟩, R', by simp [VR], hGG, hKX⟩
    · cases h
  | nilCheck x =>
    simp only [aop] at h
    have hx := VR_ev' R x
    split at h
    · rename_i i q e
      simp only [Option.some.injEq, Prod.mk.injEq] at h
      obtain ⟨rfl, rfl, rfl, rfl⟩ := h
      rw [e] at hx
      have hx2 := hx
      simp only [VR, CR] at hx
      exact pur (z := a.eval x) (fun w => by simp [execOp, hx.2]) hx2 rfl rfl
    · rename_i i q e
      simp only [Option.some.injEq, Prod.mk.injEq] at h
      obtain ⟨rfl, rfl, rfl, rfl⟩ := h
      rw [e] at hx
      have hx2 := hx
      simp only [VR] at hx
      exact pur (z := a.eval x) (fun w => by simp [execOp, hx.2]) hx2 rfl rfl
    · rename_i cs e
      simp only [Option.some.injEq, Prod.mk.injEq] at h
      obtain ⟨rfl, rfl, rfl, rfl⟩ := h
      rw [e] at hx
      have hx2 := hx
      simp only [VR, CR] at hx
      obtain ⟨b, q, hx, _⟩ := hx
      exact pur (z := a.eval x) (fun w => by simp [execOp, hx]) hx2 rfl rfl
    · rename_i f cap e
      simp only [Option.some.injEq, Prod.mk.injEq] at h
      obtain ⟨rfl, rfl, rfl, rfl⟩ := h
      rw [e] at hx
      have hx2 := hx
      simp only [VR, CR] at hx
      obtain ⟨vs, hx, _⟩ := hx
      exact pur (z := a.eval x) (fun w => by simp [execOp, hx]) hx2 rfl rfl
    · cases h
  | binOp op t x y yt =>
    simp only [aop] at h
    split at h
    · rename_i u ob' hl
      simp only [Option.some.injEq, Prod.mk.injEq] at h
      obtain ⟨rfl, rfl, rfl, rfl⟩ := h
      have hx := VR_ev' R x
      have hy := VR_ev' R y
      obtain ⟨z, hz, hv, _⟩ := abin_sound (P := P) hT x y hl hob hx hy
      exact pur (fun w => by have hz := hz w; simp only [execOp]; simp only [Sem.run_bind] at hz ⊢; rw [hz]; simp) (VR_of_CR hv) rfl rfl
    · cases h
  | unOp op t x =>
    simp only [aop] at h
    have hx := VR_ev' R x
    split at h
    · rename_i b e
      simp only [Option.some.injEq, Prod.mk.injEq] at h
      obtain ⟨rfl, rfl, rfl, rfl⟩ := h
      rw [e] at hx
      have hx : a.eval x = .bool b := by simpa [VR, CR] using hx
      exact pur (z := .bool (!b)) (fun w => by simp [execOp, hx, Op.unary]) (by simp [VR, CR]) rfl rfl
    · rename_i k n e
      simp only [Option.some.injEq, Prod.mk.injEq] at h
      obtain ⟨rfl, rfl, rfl, rfl⟩ := h
      rw [e] at hx
      have hx := int_of_VR hx
      exact pur (z := .int k (k.wrap (0 - n))) (fun w => by simp [execOp, hx, Op.unary, Op.intArith]) (by simp [VR, CR]) rfl rfl
    · cases h
  | convert s d x =>
    simp only [aop] at h
    have hx := VR_ev' R x
    split at h
    · rename_i k n e
      split at h
      · rename_i k0 k' h0 h0'
        simp only [Option.some.injEq, Prod.mk.injEq] at h
        obtain ⟨rfl, rfl, rfl, rfl⟩ := h
        rw [e] at hx
        have hx := int_of_VR hx
        have hu1 := hT.int s k0 h0
        have hu2 := hT.int d k' h0'
        exact pur (z := .int k' (k'.wrap n)) (fun w => by simp [execOp, hx, convert, run_underlying hu1, run_underlying hu2, Conv.intToInt]) (by simp [VR, CR]) rfl rfl
      · cases h
    · rename_i b e
      split at h
      · rename_i h0 h0'
        simp only [Option.some.injEq, Prod.mk.injEq] at h
        obtain ⟨rfl, rfl, rfl, rfl⟩ := h
        rw [e] at hx
        have hx2 := hx
        simp only [VR, CR] at hx
        obtain ⟨q, hx, _⟩ := hx
        have hu1 := hT.str s h0
        have hu2 := hT.str d h0'
        exact pur (z := a.eval x) (fun w => by simp [execOp, hx, convert, run_underlying hu1, run_underlying hu2]) hx2 rfl rfl
      · cases h
    · cases h
  | slice t x lo hi mx =>
    simp only [aop] at h
    split at h
    · rename_i u ob' hl
      simp only [Option.some.injEq, Prod.mk.injEq] at h
      obtain ⟨rfl, rfl, rfl, rfl⟩ := h
      obtain ⟨z, hz, hv⟩ := aslice_sound hT R hl hob (VR_ev' R x)
      exact pur (fun w => by simp only [execOp, Sem.run_bind, hz w, Result.andThen_ok, Sem.run_pure]) hv rfl rfl
    · cases h
  | fieldAddr t x f =>
    simp only [aop] at h
    split at h
    · rename_i off b n ht
      obtain ⟨fs, fd, hu, hfd, hoff, hn, hag⟩ := hT.fld t f off b n ht
      have hx := VR_ev' R x
      have run : ∀ (bl o : Nat), a.eval x = .pointer (some ⟨bl, o, none⟩) → ∀ w, (execOp a.eval ⟨dst, .fieldAddr t x f, type, pos, after, guard⟩).run P w = .ok (.value (.pointer (some ⟨bl, o + off, none⟩))) w := fun bl o e w => by
        simp [execOp, Instr.fieldAt, run_underlying hu, hfd, e, Instr.sureAddr, fieldPlace, (hag w).2, hn, hoff, Addr.add_lit]
      split at h
      · rename_i i o e
        simp only [Option.some.injEq, Prod.mk.injEq] at h
        obtain ⟨rfl, rfl, rfl, rfl⟩ := h
        rw [e] at hx
        simp only [VR] at hx
        exact pur (run _ _ hx.2) (by simp only [VR]; exact ⟨hx.1, trivial⟩) rfl rfl
      · rename_i i o e
        simp only [Option.some.injEq, Prod.mk.injEq] at h
        obtain ⟨rfl, rfl, rfl, rfl⟩ := h
        rw [e] at hx
        simp only [VR, CR] at hx
        exact pur (run _ _ hx.2) (by simp only [VR, CR]; exact ⟨hx.1, trivial⟩) rfl rfl
      · rename_i cs e
        simp only [Option.some.injEq, Prod.mk.injEq] at h
        obtain ⟨rfl, rfl, rfl, rfl⟩ := h
        rw [e] at hx
        simp only [VR, CR] at hx
        obtain ⟨bl, o, hx, h1, h2, h3⟩ := hx
        refine pur (run _ _ hx) (VR_of_CR ?_) rfl rfl
        simp only [CR]
        exact ⟨bl, o + off, rfl, h1, by simp; omega, CRat_drop off h3⟩
      · cases h
    · cases h
  | field t x f =>
    simp only [aop] at h
    split at h
    · rename_i off b n ht
      obtain ⟨fs, fd, hu, hfd, hoff, hn, hag⟩ := hT.fld t f off b n ht
      have hx := VR_ev' R x
      split at h
      · rename_i cs e
        rw [e] at hx
        simp only [VR, CR] at hx
        obtain ⟨vs, hx, hvs, h1⟩ := hx
        have h' : partA b cs off n = some v ∧ fr' = fr ∧ σ' = σ := by
          split at h
          · rename_i u hu'
            simp only [Option.some.injEq, Prod.mk.injEq] at h
            exact ⟨by rw [← h.1]; exact hu', h.2.1.symm, h.2.2.1.symm⟩
          · cases h
        obtain ⟨z, hz, hv⟩ := part_agg (P := P) hT hag hvs h1 h'.1
        exact pur (z := z) (fun w => by simp [execOp, Instr.field, run_underlying hu, hfd, hx, asAgg, hoff, hz]) (VR_of_CR hv) h'.2.1 h'.2.2
      · cases h
    · cases h
  | indexAddr t x i =>
    simp only [aop] at h
    split at h
    · rename_i k j e
      have hi := VR_ev' R i
      rw [e] at hi
      have hi := int_of_VR hi
      have hx := VR_ev' R x
      split at h
      · rename_i cs n own e2
        split at h
        · rename_i et sz bb by_ ht
          simp only [Option.some.injEq, Prod.mk.injEq] at h
          obtain ⟨rfl, rfl, rfl, rfl⟩ := h
          obtain ⟨h0, h1, h2⟩ := hob
          obtain ⟨hu, hn0, hb0, ⟨it, zi, hi0, hsz, hby, hiz, hzs, hz1⟩, _⟩ := hT.elm t et sz bb by_ ht
          rw [e2] at hx
          have key : CR g.V (.slice cs n own.shut) (a.eval x) := by
            cases own with
            | tok t sz => exact hx.2.1
            | exact => exact hx
            | no => exact hx
          simp only [CR] at key
          obtain ⟨_, A, cap, ex, hnc, _, hA⟩ := key
          have hsize : ∀ w, (sizeOf et).run P w = .ok sz w := fun w => by simp [sizeOf, typeInfo, hi0, hsz]
          rcases hA with ⟨rfl, _, rfl, _⟩ | ⟨bl, o, rfl, k1, k2, k3⟩
          · omega
          · refine pur (z := .pointer (some ⟨bl, o + j.toNat * sz, none⟩)) (fun w => ?_) (VR_of_CR ?_) rfl rfl
            · simp [execOp, Instr.indexAt, hi, asIntOf, ex, run_underlying hu, h0, h1, hsize, Addr.add_lit]
            · simp only [CR]
              refine ⟨bl, o + j.toNat * sz, rfl, k1, ?_, CRat_take sz (CRat_drop _ k3)⟩
              simp only [List.length_take, List.length_drop]
              omega
        · cases h
      · rename_i b o e2
        split at h
        · rename_i l n bb ht
          simp only [Option.some.injEq, Prod.mk.injEq] at h
          obtain ⟨rfl, rfl, rfl, rfl⟩ := h
          obtain ⟨h0, h1⟩ := hob
          obtain ⟨et, hu, hn0, hl, hag⟩ := hT.arr t l n bb ht
          rw [e2] at hx
          simp only [VR] at hx
          refine pur (z := .pointer (some ⟨g.nu b, o + j.toNat * n, none⟩)) (fun w => ?_) (by simp only [VR]; exact ⟨hx.1, trivial⟩) rfl rfl
          simp [execOp, Instr.indexAt, hi, asIntOf, hx.2, run_underlying hu, h0, h1, (hag w).2, Addr.add_lit, Instr.sureAddr]
        · cases h
      · rename_i cs e2
        split at h
        · rename_i l n bb ht
          simp only [Option.some.injEq, Prod.mk.injEq] at h
          obtain ⟨rfl, rfl, rfl, rfl⟩ := h
          obtain ⟨h0, h1, h2⟩ := hob
          obtain ⟨et, hu, hn0, hl, hag⟩ := hT.arr t l n bb ht
          rw [e2] at hx
          simp only [VR, CR] at hx
          obtain ⟨bl, o, ex, k1, k2, k3⟩ := hx
          refine pur (z := .pointer (some ⟨bl, o + j.toNat * n, none⟩)) (fun w => ?_) (VR_of_CR ?_) rfl rfl
          · simp [execOp, Instr.indexAt, hi, asIntOf, ex, run_underlying hu, h0, h1, (hag w).2, Addr.add_lit, Instr.sureAddr]
          · simp only [CR]
            refine ⟨bl, o + j.toNat * n, rfl, k1, ?_, CRat_drop _ k3⟩
            simp only [List.length_drop]
            omega
        · cases h
      · cases h
    · cases h
  | index t x i =>
    simp only [aop] at h
    split at h
    · rename_i k j e
      have hi := VR_ev' R i
      rw [e] at hi
      have hi := int_of_VR hi
      have hx := VR_ev' R x
      split at h
      · rename_i s e2
        split at h
        · rename_i ht
          simp only [Option.some.injEq, Prod.mk.injEq] at h
          obtain ⟨rfl, rfl, rfl, rfl⟩ := h
          obtain ⟨h0, h1⟩ := hob
          have hu := hT.str t ht
          rw [e2] at hx
          simp only [VR, CR] at hx
          obtain ⟨b, hx, rfl⟩ := hx
          have hbs : b.data.toList.length = b.size := by rw [Array.length_toList]; rfl
          have hlt : j.toNat < b.size := by rw [hbs] at h1; omega
          have hg : b[j.toNat]? = some (b.data.toList.getD j.toNat 0) := by
            rw [getElem?_pos b j.toNat hlt]
            have hd : j.toNat < b.data.size := hlt
            have e1 : b.data[j.toNat]? = some b.data[j.toNat] := Array.getElem?_eq_getElem hd
            simp only [List.getD, Array.getElem?_toList, e1, Option.getD_some]
            rfl
          refine pur (z := .int .u8 ((b.data.toList.getD j.toNat 0).toNat : Int)) (fun w => ?_) (by simp [VR, CR]) rfl rfl
          simp only [execOp, Instr.index, hi, asIntOf, hx, Sem.run_bind, Sem.run_pure, Result.andThen_ok, run_underlying hu, h0, if_true, hg]
        · cases h
      · rename_i cs e2
        split at h
        · rename_i l n bb ht
          obtain ⟨et, hu, hn0, hl, hag⟩ := hT.arr t l n bb ht
          rw [e2] at hx
          simp only [VR, CR] at hx
          obtain ⟨vs, hx, hvs, h1⟩ := hx
          have h' : partA bb cs (j.toNat * n) n = some v ∧ fr' = fr ∧ σ' = σ ∧ 0 ≤ j ∧ j < (l : Int) := by
            split at h
            · rename_i u hu'
              simp only [Option.some.injEq, Prod.mk.injEq] at h
              exact ⟨by rw [← h.1]; exact hu', h.2.1.symm, h.2.2.1.symm, by rw [← h.2.2.2] at hob; exact hob⟩
            · cases h
          obtain ⟨z, hz, hv⟩ := part_agg (P := P) hT hag hvs h1 h'.1
          refine pur (z := z) (fun w => ?_) (VR_of_CR hv) h'.2.1 h'.2.2.1
          simp [execOp, Instr.index, hi, asIntOf, hx, run_underlying hu, h'.2.2.2.1, h'.2.2.2.2, (hag w).2, hz]
        · cases h
      · cases h
    · cases h
  | makeInterface t x =>
    simp only [aop] at h
    split at h
    · rename_i u ht hu
      simp only [Option.some.injEq, Prod.mk.injEq] at h
      obtain ⟨rfl, rfl, rfl, rfl⟩ := h
      obtain ⟨d, hd, hni⟩ := hT.con t ht
      refine pur (z := .iface t (a.eval x)) (fun w => ?_) (VR_of_CR ?_) rfl rfl
      · cases d <;> first | exact absurd rfl (hni _) | simp [execOp, Instr.makeInterface, run_underlying hd]
      · simp only [CR]; exact ⟨_, rfl, CR_of_VR (VR_ev' R x) hu⟩
    · cases h
  | makeFunc fn first cap =>
    cases fn with
    | func f =>
      simp only [aop] at h
      obtain ⟨hb, h⟩ := chk_some h
      split at h
      · rename_i us hus
        simp only [Option.some.injEq, Prod.mk.injEq] at h
        obtain ⟨rfl, rfl, rfl, rfl⟩ := h
        have hfirst : first = #[] := by simpa using hb
        subst hfirst
        refine pur (z := .func (.func f) #[] (cap.map a.eval)) (fun w => by simp [execOp, Instr.makeFunc]) (VR_of_CR ?_) rfl rfl
        simp only [CR]
        exact ⟨cap.toList.map a.eval, by apply congrArg; apply Array.ext'; simp, CRs_of_VRs (VRs_ev R cap.toList) hus⟩
      · cases h
    | _ => simp [aop] at h
  | range t x =>
    simp only [aop] at h
    split at h
    · rename_i s e
      split at h
      · rename_i ht
        simp only [Option.some.injEq, Prod.mk.injEq] at h
        obtain ⟨rfl, rfl, rfl, rfl⟩ := h
        have hu := hT.str t ht
        have hx := VR_ev' R x
        rw [e] at hx
        simp only [VR, CR] at hx
        obtain ⟨b, hx, rfl⟩ := hx
        obtain ⟨g', R', hv, hGG⟩ := R.newIter b 0
        refine eff rfl ?_ R' hv hGG (Kp_alloc R _)
        simp [execOp, Instr.range, run_underlying hu, hx]
      · cases h
    · cases h
  | extract x i =>
    simp only [aop] at h
    split at h
    · rename_i vs e
      split at h
      · rename_i u hu
        simp only [Option.some.injEq, Prod.mk.injEq] at h
        obtain ⟨rfl, rfl, rfl, rfl⟩ := h
        have hx := VR_ev' R x
        rw [e] at hx
        simp only [VR, CR] at hx
        obtain ⟨us, hx, hvs⟩ := hx
        obtain ⟨z, hz, hv⟩ := CRs_get i _ hvs hu
        refine pur (z := z) (fun w => ?_) (VR_of_CR hv) rfl rfl
        simp [execOp, Instr.extract, hx, hz]
      · cases h
    · cases h
  | call c =>
    obtain ⟨callee, args, argTypes⟩ := c
    cases callee with
    | builtin b =>
      simp only [aop] at h
      split at h
      · rename_i x t hargs htypes
        have ha : args = #[x] := by apply Array.ext'; simpa using hargs
        have hty : argTypes = #[t] := by apply Array.ext'; simpa using htypes
        subst ha; subst hty
        have hx := VR_ev' R x
        split at h
        · rename_i s e
          split at h
          · rename_i ht
            simp only [Option.some.injEq, Prod.mk.injEq] at h
            obtain ⟨rfl, rfl, rfl, rfl⟩ := h
            have hu := hT.str t ht
            rw [e] at hx
            simp only [VR, CR] at hx
            obtain ⟨q, hx, rfl⟩ := hx
            have hbs : q.data.toList.length = q.size := by rw [Array.length_toList]; rfl
            refine pur (z := goInt q.size) (fun w => ?_) (by rw [hbs]; simp [VR, CR, goInt]) rfl rfl
            simp [execOp, resolve, invoke, builtin, Builtin.len_, run_underlying hu, hx]
          · cases h
        · rename_i cs n own e
          split at h
          · rename_i q ht
            simp only [Option.some.injEq, Prod.mk.injEq] at h
            obtain ⟨rfl, rfl, rfl, rfl⟩ := h
            obtain ⟨e1, e2, e3, e4⟩ := q
            have hu := (hT.elm t e1 e2 e3 e4 ht).1
            rw [e] at hx
            obtain ⟨A, cap, hx, _⟩ := slice_cells hx
            refine pur (z := goInt n) (fun w => ?_) (by simp [VR, CR, goInt]) rfl rfl
            simp [execOp, resolve, invoke, builtin, Builtin.len_, run_underlying hu, hx]
          · cases h
        · cases h
      · rename_i s x t u hargs htypes
        obtain ⟨hb0, h'⟩ := chk_some h
        clear h
        have hb := Nat.eq_of_beq_eq_true hb0
        clear hb0
        subst hb
        have h := h'
        clear h'
        have ha : args = #[s, x] := by apply Array.ext'; simpa using hargs
        have hty : argTypes = #[t, t] := by apply Array.ext'; simpa using htypes
        subst ha; subst hty
        split at h
        · rename_i r fr1 ob' hl
          simp only [Option.some.injEq, Prod.mk.injEq] at h
          obtain ⟨rfl, rfl, rfl, rfl⟩ := h
          obtain ⟨z, g', w', hz, R', hv, hGG, hK⟩ := append_sound (ty := type) hT R hl hob (VR_ev' R s) (VR_ev' R x)
          refine eff rfl ?_ R' hv hGG hK
          simp [execOp, resolve, invoke, builtin, hz]
        · cases h
      · rename_i l0 ts x y hargs
        have ha : args = #[x, y] := by apply Array.ext'; simpa using hargs
        subst ha
        have hx := VR_ev' R x
        have hy := VR_ev' R y
        split at h
        · rename_i k p k' q e1 e2
          simp only [Option.some.injEq, Prod.mk.injEq] at h
          obtain ⟨rfl, rfl, rfl, rfl⟩ := h
          rw [e1] at hx; rw [e2] at hy
          have hx := int_of_VR hx
          have hy := int_of_VR hy
          refine pur (z := .int k (if q < p then q else p)) (fun w => ?_) (by simp [VR, CR]) rfl rfl
          simp [execOp, resolve, invoke, builtin, Builtin.min_, Builtin.min2, hx, hy]
        · cases h
      · rename_i l0 ts x y hargs
        have ha : args = #[x, y] := by apply Array.ext'; simpa using hargs
        subst ha
        have hx := VR_ev' R x
        have hy := VR_ev' R y
        split at h
        · rename_i k p k' q e1 e2
          simp only [Option.some.injEq, Prod.mk.injEq] at h
          obtain ⟨rfl, rfl, rfl, rfl⟩ := h
          rw [e1] at hx; rw [e2] at hy
          have hx := int_of_VR hx
          have hy := int_of_VR hy
          refine pur (z := .int k (if q > p then q else p)) (fun w => ?_) (by simp [VR, CR]) rfl rfl
          simp [execOp, resolve, invoke, builtin, Builtin.max_, Builtin.max2, hx, hy]
        · cases h
      · cases h
    | value f => simp [aop] at h
    | invoke r m => simp [aop] at h
  | _ => simp [aop] at h

end
end Go.AE

/- The rules of a walk on the abstract side. -/
set_option linter.unusedVariables false
set_option linter.unusedSimpArgs false
namespace Go.AE

inductive AX where
  | normal
  | exit (id : Nat)
  | goto (l : Nat)
  | ret
  | panic (v : AV)

def RelX (E : Ent) (g : Gh) (fr : Fr) (σ : St) : AX → Exit → Act → World → Prop
  | .normal, .normal, a, w => Rel E g fr σ a w
  | .exit i, .exit j, a, w => i = j ∧ Rel E g fr σ a w
  | .goto i, .goto j, a, w => i = j ∧ Rel E g fr σ a w
  | .ret, .ret, a, w => Rel E g fr σ a w
  | .panic v, .panic chain, a, w => a.defers = E.df ∧ (∃ x, chain = [{ v := x, recovered := false }] ∧ CR g.V v x) ∧ g.V.w = w ∧ HInv g.V σ ∧ Gr E.V g.V
  | _, _, _, _ => False

abbrev APost := AX → Fr → St → Prop

def Post (E : Ent) (Q : APost) (e : Exit) (a : Act) (w : World) : Prop := ∃ ax g fr σ, Q ax fr σ ∧ RelX E g fr σ ax e a w

def ACode (P : Program) (nt : Nat) (c : Code) (Q : APost) (fr : Fr) (σ : St) : Prop :=
  ∀ E g a w, E.nt = nt → Rel E g fr σ a w → c.wp P (Post E Q) a w

def AOps (P : Program) (nt : Nat) (ops : Array Oper) (rest : List Oper) (Q : APost) (fr : Fr) (σ : St) : Prop :=
  ∀ E g a w, E.nt = nt → Rel E g fr σ a w → wpList P ops (Post E Q) rest a w

inductive AEnd where
  | ret (v : AV)
  | panic (v : AV)

def EndR (V : View) : AEnd → Ending → Prop
  | .ret v, .returned x => CR V v x
  | .panic v, .panicked chain => ∃ x, chain = [{ v := x, recovered := false }] ∧ CR V v x
  | _, _ => False

def ACalls (P : Program) (f : FuncId) (args : List AV) (σ : St) (R : AEnd → St → Prop) : Prop :=
  ∀ (V : View) (vs : List Value), HInv V σ → CRs V args vs → Calls P f vs.toArray V.w fun e w' => ∃ ae V' σ', R ae σ' ∧ V'.w = w' ∧ HInv V' σ' ∧ Gr V V' ∧ EndR V' ae e

theorem ACalls.mono {P : Program} {f : FuncId} {args : List AV} {σ : St} {R R' : AEnd → St → Prop} (h : ACalls P f args σ R) (hr : ∀ e s, R e s → R' e s) : ACalls P f args σ R' :=
  fun V vs hH hv => (h V vs hH hv).mono fun e w' ⟨ae, V', σ', h1, h2⟩ => ⟨ae, V', σ', hr _ _ h1, h2⟩

section
variable {P : Program} {T : Tab} {nt : Nat} {Q : APost} {fr : Fr} {σ : St}

theorem Post.mono {E : Ent} {Q Q' : APost} (h : ∀ ax fr σ, Q ax fr σ → Q' ax fr σ) {e : Exit} {a : Act} {w : World} (hp : Post E Q e a w) : Post E Q' e a w :=
  let ⟨ax, g, fr, σ, h1, h2⟩ := hp; ⟨ax, g, fr, σ, h _ _ _ h1, h2⟩

theorem ACode.mono {c : Code} {Q Q' : APost} (hc : ACode P nt c Q fr σ) (h : ∀ ax fr σ, Q ax fr σ → Q' ax fr σ) : ACode P nt c Q' fr σ :=
  fun E g a w hn R => wp_mono (hc E g a w hn R) fun _ _ _ hp => hp.mono h

theorem ACode.skip (h : Q .normal fr σ) : ACode P nt .skip Q fr σ := fun E g a w _ R => wp_skip ⟨.normal, g, fr, σ, h, R⟩
theorem ACode.label {l : Nat} (h : Q .normal fr σ) : ACode P nt (.label l) Q fr σ := fun E g a w _ R => wp_label ⟨.normal, g, fr, σ, h, R⟩
theorem ACode.exit {i : Nat} (h : Q (.exit i) fr σ) : ACode P nt (.exit i) Q fr σ := fun E g a w _ R => wp_exit ⟨.exit i, g, fr, σ, h, rfl, R⟩
theorem ACode.goto {i : Nat} (h : Q (.goto i) fr σ) : ACode P nt (.goto i) Q fr σ := fun E g a w _ R => wp_goto ⟨.goto i, g, fr, σ, h, rfl, R⟩
theorem ACode.ret (h : Q .ret fr σ) : ACode P nt .ret Q fr σ := fun E g a w _ R => wp_ret ⟨.ret, g, fr, σ, h, R⟩

@[reducible] def seqQ (N : Fr → St → Prop) (Q : APost) : APost
  | .normal, fr, σ => N fr σ
  | e, fr, σ => Q e fr σ

theorem ACode.seq {x y : Code} (h : ACode P nt x (seqQ (ACode P nt y Q) Q) fr σ) : ACode P nt (.seq x y) Q fr σ := by
  intro E g a w hn R
  refine wp_seq (wp_mono (h E g a w hn R) fun e a' w' ⟨ax, g', fr', σ', hq, hr⟩ => ?_)
  cases ax <;> cases e <;> simp only [RelX] at hr
  · exact hq E g' a' w' hn hr
  · exact ⟨_, g', fr', σ', hq, hr⟩
  · exact ⟨_, g', fr', σ', hq, hr⟩
  · exact ⟨_, g', fr', σ', hq, hr⟩
  · exact ⟨_, g', fr', σ', hq, hr⟩

@[reducible] def blockQ (id : Nat) (Q : APost) : APost
  | .exit i, fr, σ => match Nat.beq i id with | true => Q .normal fr σ | false => Q (.exit i) fr σ
  | e, fr, σ => Q e fr σ

theorem ACode.block {id : Nat} {c : Code} (h : ACode P nt c (blockQ id Q) fr σ) : ACode P nt (.block id c) Q fr σ := by
  intro E g a w hn R
  refine wp_block (wp_mono (h E g a w hn R) fun e a' w' ⟨ax, g', fr', σ', hq, hr⟩ => ?_)
  cases ax <;> cases e <;> simp only [RelX] at hr
  · exact ⟨.normal, g', fr', σ', hq, hr⟩
  · obtain ⟨rfl, hr⟩ := hr
    simp only [blockQ] at hq
    simp only [Exit.inBlock]
    split at hq
    · rename_i e; have e := Nat.eq_of_beq_eq_true e; subst e; simp only [if_true]; exact ⟨.normal, g', fr', σ', hq, hr⟩
    · rename_i e; have e := Nat.ne_of_beq_eq_false e; simp only [e, if_false]; exact ⟨.exit _, g', fr', σ', hq, rfl, hr⟩
  · exact ⟨.goto _, g', fr', σ', hq, hr⟩
  · exact ⟨.ret, g', fr', σ', hq, hr⟩
  · exact ⟨.panic _, g', fr', σ', hq, hr⟩

theorem ACode.cond {c : Operand} {x y : Code} {t : Bool} (hc : ev fr c = .bool t) (h1 : t = true → ACode P nt x Q fr σ) (h2 : t = false → ACode P nt y Q fr σ) : ACode P nt (.cond c x y) Q fr σ := by
  intro E g a w hn R
  have hv := VR_ev' R c
  rw [hc] at hv
  have hv : a.eval c = .bool t := by simpa [VR, CR] using hv
  exact wp_cond_split hv (fun e => h1 e E g a w hn R) fun e => h2 e E g a w hn R

theorem ACode.region {id : Nat} {ops : Array Oper} (h : AOps P nt ops ops.toList Q fr σ) : ACode P nt (.region id ops false) Q fr σ :=
  fun E g a w hn R => wp_region_list (h E g a w hn R)

theorem AOps.nil {ops : Array Oper} (h : Q .normal fr σ) : AOps P nt ops [] Q fr σ := fun E g a w hn R => ⟨.normal, g, fr, σ, h, R⟩

def awanted (ops : Array Oper) (o : Oper) (fr : Fr) : Option Bool :=
  match o.guard with
  | none => some true
  | some (j, want) =>
    match (ops[j]?).bind (·.dst) with
    | some d => (match look fr.sl d with | .bool t => some (t == want) | .tuple [] => some false | _ => none)
    | none => none

theorem awanted_sound {E : Ent} {g : Gh} {a : Act} {w : World} {ops : Array Oper} {o : Oper} {b : Bool} (R : Rel E g fr σ a w) (h : awanted ops o fr = some b) : Region.wanted o (yielded ops a.tmps) = b := by
  unfold awanted at h
  unfold Region.wanted
  split at h
  · rename_i hg; rw [hg]; injection h
  · rename_i j want hg
    rw [hg]
    split at h
    · rename_i d hd
      split at h
      · rename_i t ht
        injection h with h
        have hv := R.sl d
        rw [ht] at hv
        have hv : a.tmps.getD d undef = .bool t := by simpa [VR, CR] using hv
        have hdl : a.tmps[d]? = some (.bool t) := by
          rw [Array.getD_eq_getD_getElem?] at hv
          cases hx : a.tmps[d]? with
          | none => rw [hx] at hv; simp [undef] at hv
          | some x => rw [hx] at hv; simpa using hv
        have hy : yielded ops a.tmps j = some t := by simp [yielded, hd, hdl]
        simp only [hy]
        rw [← h]
        cases t <;> cases want <;> rfl
      · rename_i ht
        injection h with h
        have hv := R.sl d
        rw [ht] at hv
        have hv : a.tmps.getD d undef = .tuple #[] := by
          simp only [VR, CR] at hv
          obtain ⟨vs, e, h2⟩ := hv
          simp only [CRs] at h2
          subst h2
          exact e
        have hy : yielded ops a.tmps j = none := by
          rw [Array.getD_eq_getD_getElem?] at hv
          cases hx : a.tmps[d]? with
          | none => simp [yielded, hd, hx]
          | some x => rw [hx] at hv; simp at hv; subst hv; simp [yielded, hd, hx]
        simp only [hy]
        rw [← h]
        rfl
      · cases h
    · cases h

theorem wpList_take {ops : Array Oper} {rest : List Oper} {o : Oper} {a : Act} {w w' : World} {QQ : Exit → Act → World → Prop} {nx : Next} {z : Value} (hw : Region.wanted o (yielded ops a.tmps) = true)
    (hr : (execOp a.eval o).run P w = .ok nx w') (hn : nx = .value z ∨ (nx = .skip ∧ z = undef)) (h : wpList P ops QQ rest (a.put o.dst z) w') : wpList P ops QQ (o :: rest) a w := by
  unfold wpList
  rw [if_pos hw]
  refine .inl ?_
  unfold Oper.wp
  rw [hr]
  rcases hn with rfl | ⟨rfl, rfl⟩
  · exact h
  · exact h

def dstOk (nt : Nat) : Option Nat → Bool
  | none => true
  | some d => Nat.blt d nt

theorem dstOk_lt {nt : Nat} {d : Option Nat} (h : dstOk nt d = true) : ∀ k, d = some k → k < nt := fun k e => by subst e; exact Nat.le_of_ble_eq_true h

theorem VR_undef {g : Gh} {tk : List Nat} : VR g tk (.tuple []) undef := by
  simp only [VR, CR]; exact ⟨[], rfl, rfl⟩

def arun (T : Tab) (hp : Option Nat → Bool) (nt : Nat) (ops : Array Oper) : List Oper → Fr → St → Option (Fr × St × Prop)
  | [], fr, σ => some (fr, σ, True)
  | o :: r, fr, σ =>
    match dstOk nt o.dst with
    | false => none
    | true =>
      match awanted ops o fr with
      | none => none
      | some false => arun T hp nt ops r (fr.put o.dst (.tuple [])) σ
      | some true =>
        match aop T (hp o.dst) o.op fr σ with
        | none => none
        | some (v, fr', σ', ob) =>
          match arun T hp nt ops r (fr'.put o.dst v) σ' with
          | none => none
          | some (f, s, ob') => some (f, s, ob ∧ ob')

theorem AOps.run_all (hT : TabOK P T) (hp : Option Nat → Bool) {ops : Array Oper} {rest : List Oper} : ∀ (l : List Oper) {fr fr' : Fr} {σ σ' : St} {ob : Prop}, arun T hp nt ops l fr σ = some (fr', σ', ob) → ob → AOps P nt ops rest Q fr' σ' → AOps P nt ops (l ++ rest) Q fr σ
  | [], fr, fr', σ, σ', ob, h, _, k => by
    simp only [arun, Option.some.injEq, Prod.mk.injEq] at h
    obtain ⟨rfl, rfl, rfl⟩ := h
    exact k
  | o :: l, fr, fr', σ, σ', ob, h, hob, k => by
    simp only [arun] at h
    split at h
    · cases h
    rename_i hd
    intro E g a w hn R
    have hdl := dstOk_lt hd
    rw [← hn] at hdl
    split at h
    · cases h
    · rename_i hw
      have hw := awanted_sound R hw
      have ih := AOps.run_all hT hp l h hob k E g (a.put o.dst undef) w hn (R.put o.dst VR_undef hdl)
      show wpList P ops _ (o :: (l ++ rest)) a w
      unfold wpList
      rw [if_neg (by simp [hw])]
      exact ih
    · rename_i hw
      have hw := awanted_sound R hw
      split at h
      · cases h
      rename_i v fr1 σ1 ob1 ho
      split at h
      · cases h
      rename_i f s ob2 hr
      simp only [Option.some.injEq, Prod.mk.injEq] at h
      obtain ⟨rfl, rfl, rfl⟩ := h
      obtain ⟨nx, z, g', w', hrun, hnx, R', hv, _, _⟩ := (aop_sound hT R ho hob.1).2
      exact wpList_take hw hrun hnx (AOps.run_all hT hp l hr hob.2 k E g' (a.put o.dst z) w' hn (R'.put o.dst hv hdl))

theorem AOps.weak {ops : Array Oper} {rest : List Oper} (ks : List Nat) (h : AOps P nt ops rest Q { fr with sl := keep fr.sl ks } σ) : AOps P nt ops rest Q fr σ :=
  fun E g a w hn R => h E g a w hn (R.weak _ fun k => look_keep fr.sl ks k)

theorem ACode.weak {c : Code} (ks : List Nat) (h : ACode P nt c Q { fr with sl := keep fr.sl ks } σ) : ACode P nt c Q fr σ :=
  fun E g a w hn R => h E g a w hn (R.weak _ fun k => look_keep fr.sl ks k)

def arunK (T : Tab) (hp : Option Nat → Bool) (nt : Nat) (ops : Array Oper) (l : List Oper) (ks : List Nat) (fr : Fr) (σ : St) : Option (Fr × St × Prop) :=
  match arun T hp nt ops l fr σ with
  | none => none
  | some (f, s, ob) => some ({ f with sl := keep f.sl ks }, s, ob)

theorem AOps.run (hT : TabOK P T) (hp : Option Nat → Bool) {ops : Array Oper} {l rest : List Oper} (n : Nat) (ks : List Nat) {fr' : Fr} {σ' : St} {ob : Prop} (hl : l = l.take n ++ rest) (h : arunK T hp nt ops (l.take n) ks fr σ = some (fr', σ', ob)) (hob : ob) (k : AOps P nt ops rest Q fr' σ') :
    AOps P nt ops l Q fr σ := by
  rw [hl]
  unfold arunK at h
  split at h
  · cases h
  rename_i f s ob1 hr
  simp only [Option.some.injEq, Prod.mk.injEq] at h
  obtain ⟨rfl, rfl, rfl⟩ := h
  exact AOps.run_all hT hp _ hr hob (AOps.weak ks k)

theorem ACode.run (hT : TabOK P T) (hp : Option Nat → Bool) {id : Nat} {ops : Array Oper} (ks : List Nat) {fr' : Fr} {σ' : St} {ob : Prop} (h : arunK T hp nt ops ops.toList ks fr σ = some (fr', σ', ob)) (hob : ob) (k : Q .normal fr' σ') :
    ACode P nt (.region id ops false) Q fr σ := by
  refine ACode.region ?_
  unfold arunK at h
  split at h
  · cases h
  rename_i f s ob1 hr
  simp only [Option.some.injEq, Prod.mk.injEq] at h
  obtain ⟨rfl, rfl, rfl⟩ := h
  have := AOps.run_all (P := P) (Q := Q) (rest := []) hT hp _ hr hob (AOps.weak ks (AOps.nil k))
  simpa using this

theorem AOps.call {ops : Array Oper} {o : Oper} {rest : List Oper} {f : Operand} {args : Array Operand} {ts : Array TypeId} {fid : FuncId} {cap avs : List AV} (hw : awanted ops o fr = some true) (ho : o.op = .call { callee := .value f, args := args, argTypes := ts })
    (hd : dstOk nt o.dst = true) (hf : ev fr f = .func fid cap) (he : Go.Proofs.Enters P fid) (ha : shutAll (args.toList.map (ev fr) ++ cap) = some avs)
    (h : ACalls P fid avs σ fun e σ' => match e with | .ret v => AOps P nt ops rest Q (fr.put o.dst v) σ' | .panic v => Q (.panic v) fr σ') :
    AOps P nt ops (o :: rest) Q fr σ := by
  intro E g a w hn R
  have hw := awanted_sound R hw
  have hdl := dstOk_lt hd
  rw [← hn] at hdl
  have hfv := VR_ev' R f
  rw [hf] at hfv
  simp only [VR, CR] at hfv
  obtain ⟨cs, hfv, hcs⟩ := hfv
  have hargs : VRs g fr.tk (args.toList.map (ev fr) ++ cap) (args.toList.map a.eval ++ cs) := VRs_append (VRs_ev R _) (VRs_of_CRs hcs)
  have hc := h g.V _ R.H (CRs_of_VRs hargs ha)
  unfold wpList
  rw [if_pos hw]
  refine .inl ?_
  have hrun : (execOp a.eval o).run P w = .ok (.enter fid (args.toList.map a.eval ++ cs).toArray) w := by
    have e1 : args.map a.eval ++ cs.toArray = (args.toList.map a.eval ++ cs).toArray := by apply Array.ext'; simp
    simp only [execOp, ho, resolve, hfv, Deferred.ofValue, invoke, Sem.run_bind, Sem.run_pure, Result.andThen_ok, Array.empty_append, e1]
    exact he _ w
  unfold Oper.wp
  rw [hrun, Oper.upon_enter]
  rw [R.w] at hc
  refine hc.mono fun e w' ⟨ae, V', σ', hR, hV, hH, gr, hE⟩ => ?_
  have R' := R.step gr hH
  rw [hV] at R'
  cases ae <;> cases e <;> simp only [EndR] at hE
  · exact hR E _ _ w' hn (R'.put o.dst (VR_of_CR hE) hdl)
  · exact ⟨_, _, _, _, hR, R'.df, hE, R'.w, hH, R'.gr⟩

def dec (s : List UInt8) (p : Nat) : Nat × Nat := Utf8.decode ⟨s.toArray⟩ p

theorem AOps.next {ops : Array Oper} {o : Oper} {rest : List Oper} {x : Operand} {i : Nat} {s : List UInt8} {p : Nat} (hg : o.guard = none) (ho : o.op = .next x true) (hd : dstOk nt o.dst = true) (hx : ev fr x = .iter i) (hi : fr.it[i]? = some (s, p))
    (h1 : p < s.length → AOps P nt ops rest Q ({ fr with it := fr.it.set i (s, p + (dec s p).2) }.put o.dst (.tuple [.bool true, .int .i64 p, .int .i32 (dec s p).1])) σ)
    (h2 : s.length ≤ p → AOps P nt ops rest Q (fr.put o.dst (.tuple [.bool false])) σ) : AOps P nt ops (o :: rest) Q fr σ := by
  intro E g a w hn R
  have hdl := dstOk_lt hd
  rw [← hn] at hdl
  have hxv := VR_ev' R x
  rw [hx] at hxv
  simp only [VR] at hxv
  have hw : Region.wanted o (yielded ops a.tmps) = true := by simp [Region.wanted, hg]
  obtain ⟨b, g', hb, hbs, R', _⟩ := R.setIter hi (p + (dec s p).2)
  have hsz : b.size = s.length := by rw [← hbs, Array.length_toList]; rfl
  have hdec : dec s p = Utf8.decode b p := by
    unfold dec
    rw [← hbs]
  by_cases hlt : p < s.length
  · refine wpList_take (nx := .value (.tuple #[.bool true, goInt p, .int .i32 (dec s p).1])) hw ?_ (.inl rfl) (h1 hlt E g' _ _ hn (R'.put o.dst (v := .tuple [.bool true, .int .i64 p, .int .i32 (dec s p).1]) ?_ hdl))
    · have : p < b.size := by omega
      simp [execOp, ho, Instr.next, hxv.2, getObj, Sem.run, hb, this, setObj, hdec]
    · refine VR_of_CR ?_
      simp only [CR]
      exact ⟨[.bool true, goInt p, .int .i32 (dec s p).1], rfl, by simp [CRs, CR, goInt]⟩
  · refine wpList_take (nx := .value (.tuple #[.bool false])) hw ?_ (.inl rfl) (h2 (by omega) E g _ _ hn (R.put o.dst (v := .tuple [.bool false]) ?_ hdl))
    · have : ¬ p < b.size := by omega
      simp [execOp, ho, Instr.next, hxv.2, getObj, Sem.run, hb, this]
    · refine VR_of_CR ?_
      simp only [CR]
      exact ⟨[.bool false], rfl, by simp [CRs, CR]⟩

theorem AOps.panic {ops : Array Oper} {o : Oper} {rest : List Oper} {x : Operand} {t : TypeId} {v : AV} (hg : o.guard = none) (ho : o.op = .panic x) (hx : ev fr x = .iface t v) (h : Q (.panic (.iface t v)) fr σ) : AOps P nt ops (o :: rest) Q fr σ := by
  intro E g a w hn R
  have hxv := VR_ev' R x
  rw [hx] at hxv
  have hcr : CR g.V (.iface t v) (a.eval x) := hxv
  simp only [VR, CR] at hxv
  obtain ⟨y, hxv, _⟩ := hxv
  unfold wpList
  rw [if_pos (by simp [Region.wanted, hg])]
  refine .inl ?_
  unfold Oper.wp
  have hrun : (execOp a.eval o).run P w = .halt (.panic (a.eval x)) w := by simp [execOp, ho, Instr.panic, hxv]
  rw [hrun, Oper.upon_panic]
  exact ⟨.panic _, g, fr, σ, h, R.df, ⟨_, rfl, hcr⟩, R.w, R.H, R.gr⟩

end
end Go.AE

/- Loops; a function's entry and its results. -/
set_option linter.unusedVariables false
set_option linter.unusedSimpArgs false
namespace Go.AE

def locOk (nb ni : Nat) : AV → Bool
  | .loc i _ => Nat.blt i nb
  | .iter i => Nat.blt i ni
  | _ => true

def allOk (nb ni : Nat) : List AV → Bool
  | [] => true
  | v :: r => match locOk nb ni v with | true => allOk nb ni r | false => false

def rowsOk (nb ni : Nat) : List (List AV) → Bool
  | [] => true
  | v :: r => match allOk nb ni v with | true => rowsOk nb ni r | false => false

def slotsOk (nb ni : Nat) (sl : List (Nat × AV)) : List Nat → Bool
  | [] => true
  | k :: ks => match locOk nb ni (look sl k) with | true => slotsOk nb ni sl ks | false => false

def Fr.forget (ks : List Nat) (nb ni : Nat) (fr : Fr) : Fr := { fr with sl := keep fr.sl ks, bx := fr.bx.take nb, it := fr.it.take ni }

def forgetOk (ks : List Nat) (nb ni : Nat) (fr : Fr) : Bool := match slotsOk nb ni fr.sl ks with | true => rowsOk nb ni (fr.bx.take nb) | false => false

theorem locOk_VR {g : Gh} {tk : List Nat} {nb ni : Nat} (hb : nb ≤ g.nb) (hi : ni ≤ g.ni) {a : AV} {v : Value} (h : VR g tk a v) (ho : locOk nb ni a = true) : VR { g with nb := nb, ni := ni } tk a v := by
  cases a with
  | loc i o => simp only [VR] at h ⊢; simp only [locOk] at ho; exact ⟨Nat.le_of_ble_eq_true ho, h.2⟩
  | iter i => simp only [VR] at h ⊢; simp only [locOk] at ho; exact ⟨Nat.le_of_ble_eq_true ho, h.2⟩
  | slice cs n own => cases own <;> exact h
  | _ => exact h

theorem locOk_VRs {g : Gh} {tk : List Nat} {nb ni : Nat} (hb : nb ≤ g.nb) (hi : ni ≤ g.ni) : ∀ {avs : List AV} {vs : List Value}, VRs g tk avs vs → allOk nb ni avs = true → VRs { g with nb := nb, ni := ni } tk avs vs
  | [], vs, h, _ => h
  | a :: avs, vs, h, ho => by
    obtain ⟨v, r, e, h1, h2⟩ := h
    simp only [allOk] at ho
    split at ho
    · rename_i hk; exact ⟨v, r, e, locOk_VR hb hi h1 hk, locOk_VRs hb hi h2 ho⟩
    · cases ho

theorem rowsOk_get {nb ni : Nat} : ∀ {l : List (List AV)} {i : Nat} {x : List AV}, rowsOk nb ni l = true → l[i]? = some x → allOk nb ni x = true
  | [], i, x, _, hx => by simp at hx
  | a :: l, i, x, h, hx => by
    simp only [rowsOk] at h
    split at h
    · rename_i hk
      cases i with
      | zero => simp at hx; subst hx; exact hk
      | succ i => simp at hx; exact rowsOk_get h hx
    · cases h

theorem slotsOk_look {nb ni : Nat} {sl : List (Nat × AV)} : ∀ {ks : List Nat} (k : Nat), slotsOk nb ni sl ks = true → locOk nb ni (look (keep sl ks) k) = true ∧ (look (keep sl ks) k = look sl k ∨ look (keep sl ks) k = .any)
  | [], k, _ => ⟨rfl, .inr rfl⟩
  | x :: ks, k, h => by
    simp only [slotsOk] at h
    split at h
    · rename_i hk
      simp only [keep, look]
      split
      · rename_i e; subst e; exact ⟨hk, .inl rfl⟩
      · exact slotsOk_look k h
    · cases h

theorem Rel.forget {E : Ent} {g : Gh} {fr : Fr} {σ : St} {a : Act} {w : World} (h : Rel E g fr σ a w) (ks : List Nat) (nb ni : Nat) (ho : forgetOk ks nb ni fr = true) : ∃ g', Rel E g' (fr.forget ks nb ni) σ a w := by
  unfold forgetOk at ho
  split at ho
  · rename_i hs
    have hb : min nb g.nb ≤ g.nb := Nat.min_le_right _ _
    have hi : min ni g.ni ≤ g.ni := Nat.min_le_right _ _
    have up : ∀ {a : AV} {v : Value}, VR g fr.tk a v → locOk nb ni a = true → VR { g with nb := min nb g.nb, ni := min ni g.ni } fr.tk a v := fun {a v} hv hl => by
      refine locOk_VR hb hi hv ?_
      cases a with
      | loc i o => simp only [locOk] at hl ⊢; simp only [VR] at hv; exact Nat.ble_eq_true_of_le (by have := Nat.le_of_ble_eq_true hl; omega)
      | iter i => simp only [locOk] at hl ⊢; simp only [VR] at hv; exact Nat.ble_eq_true_of_le (by have := Nat.le_of_ble_eq_true hl; omega)
      | _ => rfl
    have ups : ∀ {avs : List AV} {vs : List Value}, VRs g fr.tk avs vs → allOk nb ni avs = true → VRs { g with nb := min nb g.nb, ni := min ni g.ni } fr.tk avs vs := fun {avs} => by
      induction avs with
      | nil => intro vs hv _; exact hv
      | cons a avs ih =>
        intro vs hv hl
        obtain ⟨v, r, e, h1, h2⟩ := hv
        simp only [allOk] at hl
        split at hl
        · rename_i hk; exact ⟨v, r, e, up h1 hk, ih h2 hl⟩
        · cases hl
    refine ⟨{ g with nb := min nb g.nb, ni := min ni g.ni }, h.w, h.H, ?_, fun k => ?_, h.df, h.nt, h.gr⟩
    · refine ⟨by simp [Fr.forget, h.F.nb, List.length_take], by simp [Fr.forget, h.F.ni, List.length_take], h.F.nx, fun i cs hi' => ?_, fun i hi' => h.F.bxn i (Nat.lt_of_lt_of_le hi' hb), fun i j hi' hj => h.F.bxi i j (Nat.lt_of_lt_of_le hi' hb) (Nat.lt_of_lt_of_le hj hb), fun i s p hi' => ?_, fun i j hi' hj => h.F.iti i j (Nat.lt_of_lt_of_le hi' hi) (Nat.lt_of_lt_of_le hj hi), fun t ht => ?_, h.F.tkc, h.F.tki⟩
      · have hl := rowsOk_get ho hi'
        simp only [Fr.forget] at hi'
        rw [List.getElem?_take] at hi'
        split at hi'
        · obtain ⟨c, e, h1, h2, h3⟩ := h.F.bx i cs hi'
          exact ⟨c, e, h1, ups h2 hl, h3⟩
        · cases hi'
      · simp only [Fr.forget] at hi'
        rw [List.getElem?_take] at hi'
        split at hi'
        · exact h.F.it i s p hi'
        · cases hi'
      · obtain ⟨k1, k2, k3, k4, k5⟩ := h.F.tk t ht
        exact ⟨k1, k2, k3, k4, fun j hj => k5 j (Nat.lt_of_lt_of_le hj hb)⟩
    · obtain ⟨h1, h2⟩ := slotsOk_look (nb := nb) (ni := ni) k hs
      show VR _ fr.tk (look (keep fr.sl ks) k) _
      rcases h2 with e | e
      · rw [e] at h1 ⊢; exact up (h.sl k) h1
      · rw [e]; simp [VR]
  · cases ho

section
variable {P : Program} {T : Tab} {nt : Nat} {Q : APost} {fr : Fr} {σ : St}

theorem least (p : Nat → Prop) (h : ∃ n, p n) : ∃ n, p n ∧ ∀ m, p m → n ≤ m := by
  obtain ⟨n, hn⟩ := h
  induction n using Nat.strongRecOn with
  | _ n ih =>
    by_cases h : ∃ m, m < n ∧ p m
    · obtain ⟨m, hm, hp⟩ := h
      exact ih m hm hp
    · exact ⟨n, hn, fun m hp => Nat.le_of_not_lt fun hlt => h ⟨m, hlt, hp⟩⟩

open Classical in
theorem wp_loop_rel {c : Code} {QQ : Exit → Act → World → Prop} {a : Act} {w : World} (J : Nat → Act → World → Prop) (n : Nat) (h0 : J n a w)
    (round : ∀ n a w, J n a w → c.wp P (Exit.then (fun a' w' => ∃ m, m < n ∧ J m a' w') QQ) a w) : (Code.loop c).wp P QQ a w := by
  let mu : Act → World → Nat := fun a w => if h : ∃ n, J n a w then Classical.choose (least _ h) else 0
  have hmu : ∀ a w, (∃ n, J n a w) → J (mu a w) a w := fun a w h => by simp only [mu, dif_pos h]; exact (Classical.choose_spec (least _ h)).1
  have hle : ∀ a w n, J n a w → mu a w ≤ n := fun a w n h => by simp only [mu, dif_pos (⟨n, h⟩ : ∃ n, J n a w)]; exact (Classical.choose_spec (least _ (⟨n, h⟩ : ∃ n, J n a w))).2 n h
  refine wp_loop (fun a w => ∃ n, J n a w) mu ⟨n, h0⟩ fun a w h => wp_mono (round (mu a w) a w (hmu a w h)) fun e a' w' q => ?_
  cases e with
  | normal =>
    obtain ⟨m, hm, hj⟩ := q
    exact ⟨⟨m, hj⟩, Nat.lt_of_le_of_lt (hle a' w' m hj) hm⟩
  | _ => exact q

theorem ACode.loop {c : Code} (ks : List Nat) (nb ni : Nat) (I : Nat → Fr → St → Prop) (n : Nat) (ho : forgetOk ks nb ni fr = true) (h0 : I n (fr.forget ks nb ni) σ)
    (round : ∀ n fr σ, I n fr σ → ACode P nt c (seqQ (fun fr' σ' => forgetOk ks nb ni fr' = true ∧ ∃ m, m < n ∧ I m (fr'.forget ks nb ni) σ') Q) fr σ) : ACode P nt (.loop c) Q fr σ := by
  intro E g a w hn R
  obtain ⟨g', R'⟩ := R.forget ks nb ni ho
  refine wp_loop_rel (fun n a w => ∃ g fr σ, I n fr σ ∧ Rel E g fr σ a w) n ⟨g', _, σ, h0, R'⟩ fun n a w ⟨g, fr, σ, hI, R⟩ => ?_
  refine wp_mono (round n fr σ hI E g a w hn R) fun e a' w' ⟨ax, g2, fr2, σ2, hq, hr⟩ => ?_
  cases ax <;> cases e <;> simp only [RelX] at hr
  · obtain ⟨ho, m, hm, hI⟩ := hq
    obtain ⟨g3, R3⟩ := hr.forget ks nb ni ho
    exact ⟨m, hm, g3, _, σ2, hI, R3⟩
  · exact ⟨_, g2, fr2, σ2, hq, hr⟩
  · exact ⟨_, g2, fr2, σ2, hq, hr⟩
  · exact ⟨_, g2, fr2, σ2, hq, hr⟩
  · exact ⟨_, g2, fr2, σ2, hq, hr⟩

theorem ACode.cut {x y : Code} (ks : List Nat) (nb ni : Nat) (M : Fr → St → Prop) (hx : ACode P nt x (seqQ (fun fr' σ' => forgetOk ks nb ni fr' = true ∧ M (fr'.forget ks nb ni) σ') Q) fr σ) (hy : ∀ fr σ, M fr σ → ACode P nt y Q fr σ) : ACode P nt (.seq x y) Q fr σ := by
  refine ACode.seq (ACode.mono hx fun ax fr' σ' h => ?_)
  cases ax with
  | normal =>
    intro E g a w hn R
    obtain ⟨g', R'⟩ := R.forget ks nb ni h.1
    exact hy _ _ h.2 E g' a w hn R'
  | _ => exact h

def frOf : Nat → List AV → List (Nat × AV)
  | _, [] => []
  | k, a :: r => (k, a) :: frOf (k + 1) r

theorem look_frOf : ∀ (avs : List AV) (k j : Nat), look (frOf k avs) j = if k ≤ j then avs.getD (j - k) .any else .any
  | [], k, j => by simp [frOf, look]
  | a :: avs, k, j => by
    simp only [frOf, look]
    by_cases h : k = j
    · subst h; simp
    · rw [if_neg h, look_frOf avs (k + 1) j]
      by_cases h2 : k ≤ j
      · rw [if_pos h2, if_pos (by omega)]
        rw [show j - k = (j - (k + 1)) + 1 from by omega]
        simp
      · rw [if_neg h2, if_neg (by omega)]

def acell (T : Tab) (fr : Fr) (b : Nat) (t : TypeId) : Option AV :=
  match look fr.sl b with
  | .loc i o => (match aload T fr [] t (.loc i o) with | some (v, _) => some v | none => none)
  | _ => none

def aresults (T : Tab) (fr : Fr) : List ResultVar → Option (List AV)
  | [] => some []
  | .tmp t :: r => match shut (look fr.sl t), aresults T fr r with | some v, some vs => some (v :: vs) | _, _ => none
  | .cell b t :: r =>
    match acell T fr b t with
    | some u => (match shut u, aresults T fr r with | some v, some vs => some (v :: vs) | _, _ => none)
    | none => none

def aresult (T : Tab) (fr : Fr) (rs : List ResultVar) : Option AV :=
  match aresults T fr rs with
  | some [v] => some v
  | some vs => some (.tuple vs)
  | none => none

def resM (tmps : Array Value) : ResultVar → Sem Value
  | .tmp t => pure (tmps.getD t undef)
  | .cell b t => do loadVar t (← asAddr (tmps.getD b undef))

theorem results_eq (fn : Func) (tmps : Array Value) : results fn tmps = (do let vs ← fn.results.mapM (resM tmps); pure (if h : vs.size = 1 then vs[0] else .tuple vs)) := by
  unfold results
  congr 2

theorem aload_loc_ob {T : Tab} {fr : Fr} {σ : St} {t : TypeId} {i o : Nat} {v : AV} {ob : Prop} (h : aload T fr σ t (.loc i o) = some (v, ob)) : ob ∧ ∀ σ', aload T fr σ' t (.loc i o) = some (v, ob) := by
  refine ⟨?_, fun σ' => h⟩
  unfold aload at h
  split at h
  · cases h
  · simp only at h
    split at h
    · cases h
    · split at h
      · obtain ⟨_, h⟩ := chk_some h
        split at h
        · simp only [Option.some.injEq, Prod.mk.injEq] at h; rw [← h.2]; trivial
        · cases h
      · split at h
        · simp only [Option.some.injEq, Prod.mk.injEq] at h; rw [← h.2]; trivial
        · cases h

theorem aresults_sound (hT : TabOK P T) {E : Ent} {g : Gh} {a : Act} {w : World} (R : Rel E g fr σ a w) : ∀ (rs : List ResultVar) (vs : List AV), aresults T fr rs = some vs →
    ∃ us : List Value, (rs.mapM (resM a.tmps)).run P w = .ok us w ∧ CRs g.V vs us
  | [], vs, h => by simp [aresults] at h; subst h; exact ⟨[], by simp, by simp [CRs]⟩
  | .tmp t :: r, vs, h => by
    simp only [aresults] at h
    split at h
    · rename_i v vs' h1 h2
      injection h with h; subst h
      obtain ⟨us, hu, hc⟩ := aresults_sound hT R r vs' h2
      refine ⟨a.tmps.getD t undef :: us, ?_, ?_⟩
      · simp only [List.mapM_cons, resM, Sem.run_bind, Sem.run_pure, Result.andThen_ok, hu]
      · simp only [CRs]; exact ⟨_, _, rfl, CR_of_VR (R.sl t) h1, hc⟩
    · cases h
  | .cell b t :: r, vs, h => by
    simp only [aresults] at h
    split at h
    · rename_i u hu
      split at h
      · rename_i v vs' h1 h2
        injection h with h; subst h
        obtain ⟨us, hus, hc⟩ := aresults_sound hT R r vs' h2
        unfold acell at hu
        split at hu
        · rename_i i o hl
          split at hu
          · rename_i v0 ob hld
            injection hu with hu; subst hu
            obtain ⟨hob, hld⟩ := aload_loc_ob hld
            have hx := R.sl b
            obtain ⟨z, hz, hv⟩ := aload_sound (P := P) hT R (hld σ) hob (x := a.tmps.getD b undef) (by rw [← hl]; exact hx)
            rw [hl] at hx
            have hx : i < g.nb ∧ a.tmps.getD b undef = .pointer (some ⟨g.nu i, o, none⟩) := hx
            rw [hx.2] at hz
            refine ⟨z :: us, ?_, ?_⟩
            · have e : (resM a.tmps (.cell b t)).run P w = .ok z w := by
                simp only [resM, hx.2]
                simpa [asAddr, Instr.loadAt, Instr.sureAddr] using hz
              simp only [List.mapM_cons, e, Sem.run_bind, Sem.run_pure, Result.andThen_ok, hus]
            · simp only [CRs]; exact ⟨_, _, rfl, CR_of_VR hv h1, hc⟩
          · cases hu
        · cases hu
      · cases h
    · cases h

theorem aresult_sound (hT : TabOK P T) {E : Ent} {g : Gh} {a : Act} {w : World} (R : Rel E g fr σ a w) {fn : Func} {v : AV} (h : aresult T fr fn.results.toList = some v) : ∃ x, (results fn a.tmps).run P w = .ok x w ∧ CR g.V v x := by
  unfold aresult at h
  have key : ∀ vs, aresults T fr fn.results.toList = some vs → ∃ us : List Value, (results fn a.tmps).run P w = .ok (match us with | [u] => u | _ => .tuple us.toArray) w ∧ CRs g.V vs us := fun vs hv => by
    obtain ⟨us, h1, h2⟩ := aresults_sound (P := P) hT R _ vs hv
    refine ⟨us, ?_, h2⟩
    rw [results_eq, Array.mapM_eq_mapM_toList]
    simp only [Sem.run_bind, Sem.run_map, h1, Result.andThen_ok, Sem.run_pure]
    match us with
    | [] => simp
    | [u] => simp
    | u :: u2 :: r => simp
  split at h
  · rename_i u hu
    injection h with h; subst h
    obtain ⟨us, h1, h2⟩ := key _ hu
    simp only [CRs] at h2
    obtain ⟨x, r, rfl, hx, rfl⟩ := h2
    exact ⟨x, h1, hx⟩
  · rename_i vs hne hu
    injection h with h; subst h
    obtain ⟨us, h1, h2⟩ := key _ hu
    refine ⟨_, h1, ?_⟩
    have hl := CRs_length h2
    match us, vs with
    | [], [] => simp only [CR]; exact ⟨[], rfl, h2⟩
    | [x], [y] => exact absurd rfl (hne y)
    | x :: x2 :: r, _ => simp only [CR]; exact ⟨_, rfl, h2⟩
    | [], _ :: _ => simp at hl
    | [x], _ :: _ :: _ => simp at hl
    | [x], [] => simp at hl
  · cases h

def retQ (T : Tab) (rs : List ResultVar) (R : AEnd → St → Prop) : APost
  | .normal, fr, σ => ∃ v, aresult T fr rs = some v ∧ R (.ret v) σ
  | .ret, fr, σ => ∃ v, aresult T fr rs = some v ∧ R (.ret v) σ
  | .panic v, _, σ => R (.panic v) σ
  | _, _, _ => False

def fr0 (args : List AV) : Fr := { sl := frOf 0 args, bx := [], it := [], tk := [], nx := 0 }

theorem retQ.ret {rs : List ResultVar} {R : AEnd → St → Prop} (v : AV) (h : aresult T fr rs = some v) (hr : R (.ret v) σ) : retQ T rs R .ret fr σ := ⟨v, h, hr⟩
theorem retQ.fall {rs : List ResultVar} {R : AEnd → St → Prop} (v : AV) (h : aresult T fr rs = some v) (hr : R (.ret v) σ) : retQ T rs R .normal fr σ := ⟨v, h, hr⟩

theorem ACalls.enter (hT : TabOK P T) {f : FuncId} {fn : Func} {c : Code} {args : List AV} {R : AEnd → St → Prop} (hf : P.funcs[f]? = some fn) (hb : fn.body = some c) (hl : Nat.ble args.length fn.ntmps = true)
    (h : ACode P fn.ntmps c (retQ T fn.results.toList R) (fr0 args) σ) : ACalls P f args σ R := by
  intro V vs hH hv
  have hvl := CRs_length hv
  have hle := Nat.le_of_ble_eq_true hl
  let g : Gh := { V := V, nu := fun _ => 0, iu := fun _ => 0, tb := fun _ => 0, nb := 0, ni := 0, nx := 0 }
  have R0 : Rel { V := V, nt := fn.ntmps } g (fr0 args) σ { tmps := vs.toArray ++ Array.replicate (fn.ntmps - vs.toArray.size) undef, defers := [] } V.w := by
    refine ⟨rfl, hH, ⟨rfl, rfl, rfl, fun i cs hi => by simp [fr0] at hi, fun i hi => by simp [g] at hi, fun i j hi => by simp [g] at hi, fun i s p hi => by simp [fr0] at hi, fun i j hi => by simp [g] at hi, fun t ht => by simp [fr0] at ht, fun t ht => by simp [fr0] at ht, fun t u ht => by simp [fr0] at ht⟩, fun k => ?_, rfl, by simp; omega, Gr.refl V⟩
    simp only [fr0, look_frOf, Nat.zero_le, if_true, Nat.sub_zero]
    by_cases hk : k < args.length
    · have e1 : args.getD k .any = args[k] := by simp [List.getD, hk]
      obtain ⟨x, hx, hc⟩ := CRs_get k args[k] hv (List.getElem?_eq_getElem hk)
      have e2 : (vs.toArray ++ Array.replicate (fn.ntmps - vs.toArray.size) undef).getD k undef = x := by
        rw [Array.getD_eq_getD_getElem?, Array.getElem?_append_left (by simp; omega)]
        simp [hx]
      rw [e1, e2]
      exact VR_of_CR hc
    · have e1 : args.getD k .any = .any := by simp [List.getD, List.getElem?_eq_none (Nat.le_of_not_lt hk)]
      rw [e1]; simp [VR]
  refine calls_of_wp hf hb (wp_mono (h _ g _ V.w rfl R0) fun e a' w' ⟨ax, g', fr', σ', hq, hr⟩ => ?_)
  cases ax <;> cases e <;> simp only [RelX] at hr <;> simp only [retQ] at hq
  · obtain ⟨v, hv, hR⟩ := hq
    obtain ⟨x, h1, h2⟩ := aresult_sound (P := P) hT hr hv
    exact ⟨hr.df, x, h1, .ret v, g'.V, σ', hR, hr.w, hr.H, hr.gr, h2⟩
  · obtain ⟨v, hv, hR⟩ := hq
    obtain ⟨x, h1, h2⟩ := aresult_sound (P := P) hT hr hv
    exact ⟨hr.df, x, h1, .ret v, g'.V, σ', hR, hr.w, hr.H, hr.gr, h2⟩
  · exact ⟨hr.1, .panic _, g'.V, σ', hq, hr.2.2.1, hr.2.2.2.1, hr.2.2.2.2, hr.2.1⟩

end
end Go.AE

/- A region that asks the tape for its order: what only hangs on its operands, and loads of the frame's own variables, may be taken first; what is left comes one by one. -/
set_option linter.unusedVariables false
set_option linter.unusedSimpArgs false
namespace Go.AE

section orders
variable {P : Program} {ops : Array Oper} {Q : Exit → Act → World → Prop}

def wpAnyS (P : Program) (ops : Array Oper) (Q : Exit → Act → World → Prop) (S : Array Bool → World → Prop) : Nat → Array Bool → Act → World → Prop
  | 0, listed, a, w => Region.ready .any ops listed = [] ∧ Q .normal a w
  | fuel + 1, listed, a, w =>
    (Region.ready .any ops listed = [] → Q .normal a w) ∧
    ∀ i ∈ Region.ready .any ops listed, wpOp P ops Q i (fun a' w' => S (listed.setIfInBounds i true) w' ∧ wpAnyS P ops Q S fuel (listed.setIfInBounds i true) a' w') a w

theorem wpAny_of_S {S : Array Bool → World → Prop} : ∀ (fuel : Nat) (listed : Array Bool) (a : Act) (w : World), wpAnyS P ops Q S fuel listed a w → wpAny P .any ops Q fuel listed a w
  | 0, _, _, _, h => h
  | fuel + 1, _, _, _, h => ⟨h.1, fun i hi => wpOp_mono (fun a' w' h' => wpAny_of_S fuel _ a' w' h'.2) (h.2 i hi)⟩

theorem wpAnyS_first {S : Array Bool → World → Prop} {Y : World → Prop} {i : Nat} {oi : Oper} {v : Value} (hi : ops[i]? = some oi) (hsel : ∀ (j : Nat) (o : Oper) cs b, ops[j]? = some o → o.op ≠ .select cs b)
    (hQ : ∀ c a w, Q (.panic c) (a.put oi.dst v) w → Q (.panic c) a w) (K : Array Bool → Prop)
    (hK : ∀ listed j, K listed → i ∈ Region.ready .any ops listed → j ∈ Region.ready .any ops listed → j ≠ i → K (listed.setIfInBounds j true))
    (hSY : ∀ listed w, K listed → S listed w → Y w)
    (hSS : ∀ listed w, K listed → i ∈ Region.ready .any ops listed → S (listed.setIfInBounds i true) w → S listed w) (hSi : ∀ listed w, K listed → i ∈ Region.ready .any ops listed → S listed w → S (listed.setIfInBounds i true) w) :
    ∀ (fuel : Nat) (listed : Array Bool) (a : Act) (w : World),
      (∀ j oj, ops[j]? = some oj → j ≠ i → listed.getD j true = false → (∀ e ∈ oj.after, Region.binds .any e = true → e.on ≠ i) → oi.apart ops oj = true) →
      i ∈ Region.ready .any ops listed → K listed → YieldsIf P ops Y oi v a → S listed w →
      wpAnyS P ops Q S fuel (listed.setIfInBounds i true) (a.put oi.dst v) w → wpAnyS P ops Q S (fuel + 1) listed a w := by
  intro fuel
  induction fuel with
  | zero =>
    intro listed a w _ hr hk hy hS H
    refine ⟨fun h => (by rw [h] at hr; cases hr), fun j hj => ?_⟩
    by_cases hji : j = i
    · subst hji; exact hy.wpOp hi (hSY _ _ hk hS) ⟨hSi _ _ hk hr hS, H⟩
    · have := ready_mono hj hji
      rw [H.1] at this
      cases this
  | succ fuel ih =>
    intro listed a w hfree hr hk hy hS H
    refine ⟨fun h => (by rw [h] at hr; cases hr), fun j hj => ?_⟩
    by_cases hji : j = i
    · subst hji; exact hy.wpOp hi (hSY _ _ hk hS) ⟨hSi _ _ hk hr hS, H⟩
    · have h1 := H.2 j (ready_mono hj hji)
      obtain ⟨hjun, oj, hoj, hall⟩ := mem_ready.1 hj
      have hnot : ∀ e ∈ oj.after, Region.binds .any e = true → e.on ≠ i := fun e he hb heq => by
        have h1 := hall e he hb
        have h0 := (mem_ready.1 hr).1
        rw [heq] at h1
        rcases Nat.lt_or_ge i listed.size with h' | h'
        · simp [h'] at h0 h1; rw [h0] at h1; cases h1
        · simp [Array.getElem?_eq_none h'] at h1
      have h2 := wpOp_putIf hoj (hfree j oj hoj hji hjun hnot) (fun cs b => hsel i oi cs b hi) (fun cs b => hsel j oj cs b hoj) hQ hy h1
      have hfree' : ∀ k ok, ops[k]? = some ok → k ≠ i → (listed.setIfInBounds j true).getD k true = false →
          (∀ e ∈ ok.after, Region.binds .any e = true → e.on ≠ i) → oi.apart ops ok = true := fun k ok hk hki hun hno => by
        refine hfree k ok hk hki ?_ hno
        by_cases hjk : j = k
        · subst hjk; exact hjun
        · rw [getD_set_ne true hjk] at hun; exact hun
      have hri := ready_mono hr (Ne.symm hji)
      have hk' := hK listed j hk hr hj hji
      refine wpOp_mono (fun a' w' h3 => ?_) h2
      have hS' : S (listed.setIfInBounds j true) w' := by
        refine hSS _ _ hk' hri ?_
        rw [Array.setIfInBounds_comm _ _ hji]
        exact h3.2.1
      refine ⟨hS', ih (listed.setIfInBounds j true) a' w' hfree' hri hk' h3.1 hS' ?_⟩
      rw [Array.setIfInBounds_comm _ _ hji]
      exact h3.2.2
end orders

section
variable {P : Program} {T : Tab} {nt : Nat} {Q : APost} {fr : Fr} {σ : St}

def noneYet (st : List Nat) (listed : Array Bool) : Bool := st.all fun s => !(listed.getD s false)

def stOf : List (Nat × Nat) → Nat → List Nat
  | [], _ => []
  | (s, b) :: r, j => match Nat.beq b j with | true => s :: stOf r j | false => stOf r j

def noSt : List (Nat × Nat) → Nat → Bool
  | [], _ => true
  | (s, _) :: r, i => match Nat.beq s i with | true => false | false => noSt r i

theorem noSt_of : ∀ {st : List (Nat × Nat)} {i : Nat} (j : Nat), noSt st i = true → (stOf st j).contains i = false
  | [], i, j, _ => rfl
  | (s, b) :: r, i, j, h => by
    simp only [noSt] at h
    split at h
    · cases h
    · rename_i e
      have e := Nat.ne_of_beq_eq_false e
      have ih := noSt_of j h
      simp only [stOf]
      split
      · simp only [List.contains_cons, ih, Bool.or_false, beq_eq_false_iff_ne]; exact fun h => e h.symm
      · exact ih

def HeldS (nb : Nat) (nu : Nat → Nat) (C : Nat → Option Obj) (st : List (Nat × Nat)) (listed : Array Bool) (w : World) : Prop := ∀ j, j < nb → noneYet (stOf st j) listed = true → w.heap[nu j]? = C j
def HeldO (no : Nat) (mu : Nat → Nat) (D : Nat → Option Obj) (sc : List Nat) (listed : Array Bool) (w : World) : Prop := noneYet sc listed = true → ∀ j, j < no → w.heap[mu j]? = D j

def DatS (V : View) (w : World) : Prop := ∀ b o, b < V.w.heap.size → o < V.ext b → w.cell? ⟨b, o, none⟩ = V.w.cell? ⟨b, o, none⟩

def AAny (P : Program) (nt : Nat) (ops : Array Oper) (st : List (Nat × Nat)) (nb : Nat) (sc : List Nat) (no : Nat) (fz : Bool) (fuel : Nat) (listed : Array Bool) (Q : APost) (fr : Fr) (σ : St) : Prop :=
  ∀ E g a w (nu : Nat → Nat) (C : Nat → Option Obj) (mu : Nat → Nat) (D : Nat → Option Obj) (V0 : View), E.nt = nt → Rel E g fr σ a w → nb ≤ g.nb → (∀ j, j < nb → g.nu j = nu j) → no ≤ g.V.n → (∀ j, j < no → g.V.mu j = mu j) →
    VLE V0 g.V → (fz = true → g.V = V0) → HeldS nb nu C st listed w → HeldO no mu D sc listed w →
    wpAnyS P ops (Post E Q) (fun l w => HeldS nb nu C st l w ∧ HeldO no mu D sc l w ∧ DatS V0 w) fuel listed a w

theorem ACode.draw {id : Nat} {ops : Array Oper} (st : List (Nat × Nat)) (nb : Nat) (sc : List Nat) (no : Nat) (hm : P.follows .mixedOrders = true) (hb : (Nat.ble nb fr.bx.length && Nat.ble no σ.length) = true) (h : AAny P nt ops st nb sc no true ops.size (Array.replicate ops.size false) Q fr σ) : ACode P nt (.region id ops true) Q fr σ := by
  intro E g a w hn R
  simp only [Bool.and_eq_true] at hb
  have R' := R.drawn (w.drawn + 1)
  refine wp_region_any hm (wpAny_of_S _ _ _ _ (h E _ a _ g.nu (fun j => w.heap[g.nu j]?) g.V.mu (fun j => w.heap[g.V.mu j]?) (g.V.atW { w with drawn := w.drawn + 1 }) hn R' ?_ (fun j _ => rfl) ?_ (fun j _ => rfl) (VLE.refl _) (fun _ => rfl) (fun j _ _ => rfl) fun _ j _ => rfl))
  · show nb ≤ g.nb
    rw [R.F.nb]
    exact Nat.le_of_ble_eq_true hb.1
  · show no ≤ g.V.n
    rw [R.H.n]
    exact Nat.le_of_ble_eq_true hb.2

section
variable {ops : Array Oper} {st : List (Nat × Nat)} {sc : List Nat} {nb no fuel : Nat} {fz : Bool} {listed : Array Bool}

theorem AAny.done (hr : Region.ready .any ops listed = []) (h : Q .normal fr σ) : AAny P nt ops st nb sc no fz fuel listed Q fr σ := by
  intro E g a w nu C mu D V0 hn R _ _ _ _ _ _ _ _
  cases fuel with
  | zero => exact ⟨hr, ⟨.normal, g, fr, σ, h, R⟩⟩
  | succ n => exact ⟨fun _ => ⟨.normal, g, fr, σ, h, R⟩, by rw [hr]; simp⟩

theorem Post_panic {E : Ent} {dst : Option Nat} {v : Value} : ∀ c a w, Post E Q (.panic c) (a.put dst v) w → Post E Q (.panic c) a w := by
  intro c a w ⟨ax, g, fr, σ, hq, hr⟩
  refine ⟨ax, g, fr, σ, hq, ?_⟩
  cases ax <;> simp only [RelX] at hr ⊢
  refine ⟨?_, hr.2⟩
  cases dst <;> exact hr.1

def takeOk (nt : Nat) (ops : Array Oper) (st : List (Nat × Nat)) (sc : List Nat) (listed : Array Bool) (i : Nat) (o : Oper) : Bool :=
  Region.noSelect ops && Region.free .any ops listed i && (Region.ready .any ops listed).contains i && noSt st i && !(sc.contains i) && dstOk nt o.dst

theorem noneYet_set {st : List Nat} {listed : Array Bool} {i : Nat} (h : st.contains i = false) : noneYet st (listed.setIfInBounds i true) = noneYet st listed := by
  unfold noneYet
  have key : ∀ s, s ∈ st → (!((listed.setIfInBounds i true).getD s false)) = !(listed.getD s false) := fun s hs => by
    have : i ≠ s := fun e => by subst e; simp [List.contains_iff_mem] at h; exact h hs
    rw [getD_set_ne false this]
  induction st with
  | nil => rfl
  | cons s st ih =>
    simp only [List.all_cons]
    rw [key s (by simp)]
    congr 1
    refine ih ?_ fun s hs => key s (by simp [hs])
    simp only [List.contains_cons, Bool.or_eq_false_iff] at h
    exact h.2

theorem HeldS.keep {nb : Nat} {nu : Nat → Nat} {C : Nat → Option Obj} {st : List (Nat × Nat)} {l : Array Bool} {i : Nat} {w : World} (hi : noSt st i = true) : HeldS nb nu C st (l.setIfInBounds i true) w ↔ HeldS nb nu C st l w := by
  unfold HeldS
  constructor
  · intro h j hj hn; exact h j hj (by rw [noneYet_set (noSt_of j hi)]; exact hn)
  · intro h j hj hn; exact h j hj (by rw [noneYet_set (noSt_of j hi)] at hn; exact hn)
theorem HeldO.keep {nb : Nat} {nu : Nat → Nat} {C : Nat → Option Obj} {st : List Nat} {l : Array Bool} {i : Nat} {w : World} (hi : st.contains i = false) : HeldO nb nu C st (l.setIfInBounds i true) w ↔ HeldO nb nu C st l w := by
  unfold HeldO
  rw [noneYet_set hi]

theorem DatS.of {E : Ent} {g : Gh} {fr : Fr} {σ : St} {a : Act} {w : World} {V0 : View} (R : Rel E g fr σ a w) (h : VLE V0 g.V) : DatS V0 w := fun b o hb ho => by
  rw [← R.w]; exact h.cell b o hb ho

theorem AAny.takeY {i : Nat} {o : Oper} (hi : ops[i]? = some o) (hk : takeOk nt ops st sc listed i o = true) {v : AV}
    (hy : ∀ {E : Ent} {g : Gh} {a : Act} {w : World}, Rel E g fr σ a w → ∃ z, YieldsIf P ops (fun _ => True) o z a ∧ VR g fr.tk v z)
    (h : AAny P nt ops st nb sc no fz fuel (listed.setIfInBounds i true) Q (fr.put o.dst v) σ) : AAny P nt ops st nb sc no fz (fuel + 1) listed Q fr σ := by
  simp only [takeOk, Bool.and_eq_true] at hk
  obtain ⟨⟨⟨⟨⟨h1, h2⟩, h3⟩, h4⟩, h4'⟩, h5⟩ := hk
  intro E g a w nu C mu D V0 hn R hnb hnu hno hmu hV hfz hS hO
  obtain ⟨z, hz, hv⟩ := hy R
  have hdl := dstOk_lt h5
  rw [← hn] at hdl
  have hst : noSt st i = true := h4
  have hsc : sc.contains i = false := by simpa using h4'
  have R' := R.put o.dst hv hdl
  exact wpAnyS_first hi (Region.noSelect_spec h1) Post_panic (fun _ => True) (fun _ _ _ _ _ _ => trivial) (fun _ _ _ _ => trivial)
    (fun l w _ _ hh => ⟨(HeldS.keep hst).1 hh.1, (HeldO.keep hsc).1 hh.2.1, hh.2.2⟩) (fun l w _ _ hh => ⟨(HeldS.keep hst).2 hh.1, (HeldO.keep hsc).2 hh.2.1, hh.2.2⟩) fuel listed a w (Region.free_spec hi h2) (by simpa using h3) trivial hz ⟨hS, hO, DatS.of R hV⟩
    (h E g _ w nu C mu D V0 hn R' hnb hnu hno hmu hV hfz ((HeldS.keep hst).2 hS) ((HeldO.keep hsc).2 hO))

theorem AAny.pure (hT : TabOK P T) {i : Nat} {o : Oper} (hi : ops[i]? = some o) (hk : takeOk nt ops st sc listed i o = true) {v : AV} {ob : Prop} (hw : awanted ops o fr = some true)
    (hp : isPure o.op = true) (ho : aop T false o.op fr σ = some (v, fr, σ, ob)) (hob : ob)
    (h : AAny P nt ops st nb sc no fz fuel (listed.setIfInBounds i true) Q (fr.put o.dst v) σ) : AAny P nt ops st nb sc no fz (fuel + 1) listed Q fr σ :=
  AAny.takeY hi hk (fun R => by
    obtain ⟨⟨z, hz, hv⟩, _⟩ := (aop_sound hT R ho hob).1 hp
    exact ⟨z, .inl ⟨awanted_sound R hw, fun w _ => hz w⟩, hv⟩) h

theorem AAny.skip {i : Nat} {o : Oper} (hi : ops[i]? = some o) (hk : takeOk nt ops st sc listed i o = true) (hw : awanted ops o fr = some false)
    (h : AAny P nt ops st nb sc no fz fuel (listed.setIfInBounds i true) Q (fr.put o.dst (.tuple [])) σ) : AAny P nt ops st nb sc no fz (fuel + 1) listed Q fr σ :=
  AAny.takeY hi hk (fun R => ⟨undef, .inr ⟨awanted_sound R hw, rfl⟩, VR_undef⟩) h

def waited (ops : Array Oper) (st : List Nat) (i : Nat) : Bool := st.all fun s => match ops[s]? with | some o => o.after.any (fun e => Region.binds .any e && e.on == i) | none => false

theorem waited_not {st : List Nat} {l : Array Bool} {i j : Nat} (hst : waited ops st i = true) (hri : i ∈ Region.ready .any ops l) (hj : j ∈ Region.ready .any ops l) : st.contains j = false := by
  cases hc : st.contains j with
  | false => rfl
  | true =>
    exfalso
    have hm : j ∈ st := by simpa using hc
    have hwt := List.all_eq_true.1 hst j hm
    obtain ⟨hjun, oj, hoj, hall'⟩ := mem_ready.1 hj
    rw [hoj] at hwt
    obtain ⟨e, he, hb⟩ := Array.any_eq_true'.1 hwt
    simp only [Bool.and_eq_true, beq_iff_eq] at hb
    have h9 := hall' e he hb.1
    rw [hb.2] at h9
    have h8 := (mem_ready.1 hri).1
    rcases Nat.lt_or_ge i l.size with h' | h'
    · simp [h'] at h8 h9; rw [h8] at h9; cases h9
    · simp [Array.getElem?_eq_none h'] at h9

theorem load_same (hT : TabOK P T) {t : TypeId} {blk off : Nat} {b : Bool} {n : Nat} (ht : T.sz t = some (b, n)) {w w' : World} {c : Array Value} {e : TypeId} (hh : w.heap[blk]? = some (.cells c e (0, 0))) (hheap : w'.heap[blk]? = w.heap[blk]?) {z : Value}
    (hz : (Instr.loadAt t (.pointer (some ⟨blk, off, none⟩))).run P w = .ok z w) : (Instr.loadAt t (.pointer (some ⟨blk, off, none⟩))).run P w' = .ok z w' := by
  have hcell : ∀ q, w'.cell? ⟨blk, q, none⟩ = w.cell? ⟨blk, q, none⟩ := fun q => cell_of_heap hheap
  have hrun : ∀ (m q : Nat) (acc : Array Value) (s : Nat) (r : Array Value), (loadCellsFrom ⟨blk, s, none⟩ q m acc).run P w = .ok r w → (loadCellsFrom ⟨blk, s, none⟩ q m acc).run P w' = .ok r w' := by
    intro m
    induction m with
    | zero => intro q acc s r hr; simp [loadCellsFrom] at hr ⊢; exact hr
    | succ m ih =>
      intro q acc s r hr
      simp only [loadCellsFrom, Sem.run_bind, run_load, Addr.add_lit] at hr ⊢
      rw [hcell]
      cases hc : w.cell? ⟨blk, s + q, none⟩ with
      | some u =>
        rw [hc] at hr
        simp only [Result.andThen_ok] at hr ⊢
        exact ih _ _ _ _ hr
      | none =>
        rw [hc] at hr
        exfalso
        simp [World.farLoad, hh, World.noCell, Result.andThen] at hr
  simp only [Instr.loadAt, Instr.sureAddr, Sem.run_bind, Sem.run_pure, Result.andThen_ok] at hz ⊢
  obtain ⟨k1, k2, k3⟩ := hT.sz t b n ht w
  obtain ⟨k1', k2', k3'⟩ := hT.sz t b n ht w'
  cases b with
  | true =>
    simp only [loadVar, Sem.run_bind, k1, k2, k1', k2', Result.andThen_ok, if_true, loadCells] at hz ⊢
    cases hr : (loadCellsFrom ⟨blk, off, none⟩ 0 n #[]).run P w with
    | ok r w1 =>
      have hw1 : w1 = w ∧ z = .agg r := by
        rw [hr] at hz
        simp only [Result.andThen_ok, Sem.run_pure, Result.ok.injEq] at hz
        exact ⟨hz.2, hz.1.symm⟩
      rw [hw1.1] at hr
      rw [hrun _ _ _ _ _ hr, hw1.2]
      simp
    | halt x y => rw [hr] at hz; simp [Result.andThen] at hz
  | false =>
    simp only [loadVar, Sem.run_bind, k1, k1', Result.andThen_ok, Bool.false_eq_true, if_false, run_load] at hz ⊢
    rw [hcell]
    cases hc : w.cell? ⟨blk, off, none⟩ with
    | some u => rw [hc] at hz; simp only [Result.ok.injEq] at hz ⊢; rw [hz.1]; simp
    | none =>
      rw [hc] at hz
      exfalso
      simp [World.farLoad, hh, World.noCell] at hz

theorem aload_sz {fr : Fr} {σ : St} {t : TypeId} {p v : AV} {ob : Prop} (ho : aload T fr σ t p = some (v, ob)) : ∃ b n, T.sz t = some (b, n) := by
  unfold aload at ho
  split at ho
  · cases ho
  · rename_i b n ht; exact ⟨b, n, ht⟩

theorem AAny.load (hT : TabOK P T) {i : Nat} {o : Oper} {t : TypeId} {x : Operand} {bi off : Nat} (hi : ops[i]? = some o) (hk : takeOk nt ops st sc listed i o = true) {v : AV} {ob : Prop} (hw : awanted ops o fr = some true)
    (hop : o.op = .load t x) (hx : ev fr x = .loc bi off) (hbi : Nat.blt bi nb = true) (hst : waited ops (stOf st bi) i = true) (hy : noneYet (stOf st bi) listed = true)
    (ho : aload T fr σ t (ev fr x) = some (v, ob)) (hob : ob)
    (h : AAny P nt ops st nb sc no fz fuel (listed.setIfInBounds i true) Q (fr.put o.dst v) σ) : AAny P nt ops st nb sc no fz (fuel + 1) listed Q fr σ := by
  simp only [takeOk, Bool.and_eq_true] at hk
  obtain ⟨⟨⟨⟨⟨h1, h2⟩, h3⟩, h4⟩, h4'⟩, h5⟩ := hk
  intro E g a w nu C mu D V0 hn R hnb hnu hno hmu hV hfz hS hO
  have hdl := dstOk_lt h5
  rw [← hn] at hdl
  have hni : noSt st i = true := h4
  have hnc : sc.contains i = false := by simpa using h4'
  have hbl : bi < nb := Nat.le_of_ble_eq_true hbi
  have hxv := VR_ev' R x
  rw [hx] at hxv
  simp only [VR] at hxv
  obtain ⟨z, hz, hv⟩ := aload_sound hT R ho hob (VR_ev' R x)
  obtain ⟨b, n, ht⟩ := aload_sz ho
  have hbx : bi < fr.bx.length := by rw [← R.F.nb]; exact hxv.1
  obtain ⟨c, e, hh, _, _⟩ := R.F.bx bi fr.bx[bi] (List.getElem?_eq_getElem hbx)
  rw [R.w] at hh
  have hall : ∀ w', w'.heap[nu bi]? = C bi → (execOp a.eval o).run P w' = .ok (.value z) w' := fun w' hw' => by
    rw [show execOp a.eval o = (do Pure.pure (Next.value (← Instr.loadAt t (a.eval x))) : Sem Next) from by simp [execOp, hop]]
    rw [hxv.2] at hz ⊢
    simp only [Sem.run_bind, load_same hT ht hh (by rw [hnu bi hbl, hw', hS bi hbl hy]) hz, Result.andThen_ok, Sem.run_pure]
  have R' := R.put o.dst hv hdl
  refine wpAnyS_first (Y := fun w' => w'.heap[nu bi]? = C bi) hi (Region.noSelect_spec h1) Post_panic (fun l => noneYet (stOf st bi) l = true) (fun l j hl hri hj hne => ?_) (fun l w hl hh => hh.1 bi hbl hl)
    (fun l w _ _ hh => ⟨(HeldS.keep hni).1 hh.1, (HeldO.keep hnc).1 hh.2.1, hh.2.2⟩) (fun l w _ _ hh => ⟨(HeldS.keep hni).2 hh.1, (HeldO.keep hnc).2 hh.2.1, hh.2.2⟩) fuel listed a w (Region.free_spec hi h2) (by simpa using h3) hy (.inl ⟨awanted_sound R hw, hall⟩) ⟨hS, hO, DatS.of R hV⟩
    (h E g _ w nu C mu D V0 hn R' hnb hnu hno hmu hV hfz ((HeldS.keep hni).2 hS) ((HeldO.keep hnc).2 hO))
  rw [noneYet_set (waited_not hst hri hj)]
  exact hl

theorem AAny.loadO (hT : TabOK P T) {i : Nat} {o : Oper} {t : TypeId} {x : Operand} {bi off : Nat} (hi : ops[i]? = some o) (hk : takeOk nt ops st sc listed i o = true) {v : AV} {ob : Prop} (hw : awanted ops o fr = some true)
    (hop : o.op = .load t x) (hx : ev fr x = .ptr bi off) (hbi : Nat.blt bi no = true) (hst : waited ops sc i = true) (hy : noneYet sc listed = true)
    (ho : aload T fr σ t (ev fr x) = some (v, ob)) (hob : ob)
    (h : AAny P nt ops st nb sc no fz fuel (listed.setIfInBounds i true) Q (fr.put o.dst v) σ) : AAny P nt ops st nb sc no fz (fuel + 1) listed Q fr σ := by
  simp only [takeOk, Bool.and_eq_true] at hk
  obtain ⟨⟨⟨⟨⟨h1, h2⟩, h3⟩, h4⟩, h4'⟩, h5⟩ := hk
  intro E g a w nu C mu D V0 hn R hnb hnu hno hmu hV hfz hS hO
  have hdl := dstOk_lt h5
  rw [← hn] at hdl
  have hni : noSt st i = true := h4
  have hnc : sc.contains i = false := by simpa using h4'
  have hbl : bi < no := Nat.le_of_ble_eq_true hbi
  have hxv := VR_ev' R x
  rw [hx] at hxv
  simp only [VR, CR] at hxv
  obtain ⟨z, hz, hv⟩ := aload_sound hT R ho hob (VR_ev' R x)
  obtain ⟨b, n, ht⟩ := aload_sz ho
  have hbx : bi < σ.length := by rw [← R.H.n]; exact hxv.1
  obtain ⟨c, e, hh, _, _⟩ := R.H.ob bi σ[bi] (List.getElem?_eq_getElem hbx)
  rw [R.w] at hh
  have hall : ∀ w', (∀ j, j < no → w'.heap[mu j]? = D j) → (execOp a.eval o).run P w' = .ok (.value z) w' := fun w' hw' => by
    rw [show execOp a.eval o = (do Pure.pure (Next.value (← Instr.loadAt t (a.eval x))) : Sem Next) from by simp [execOp, hop]]
    rw [hxv.2] at hz ⊢
    simp only [Sem.run_bind, load_same hT ht hh (by rw [hmu bi hbl, hw' bi hbl, hO hy bi hbl]) hz, Result.andThen_ok, Sem.run_pure]
  have R' := R.put o.dst hv hdl
  refine wpAnyS_first (Y := fun w' => ∀ j, j < no → w'.heap[mu j]? = D j) hi (Region.noSelect_spec h1) Post_panic (fun l => noneYet sc l = true) (fun l j hl hri hj hne => ?_) (fun l w hl hh => hh.2.1 hl)
    (fun l w _ _ hh => ⟨(HeldS.keep hni).1 hh.1, (HeldO.keep hnc).1 hh.2.1, hh.2.2⟩) (fun l w _ _ hh => ⟨(HeldS.keep hni).2 hh.1, (HeldO.keep hnc).2 hh.2.1, hh.2.2⟩) fuel listed a w (Region.free_spec hi h2) (by simpa using h3) hy (.inl ⟨awanted_sound R hw, hall⟩) ⟨hS, hO, DatS.of R hV⟩
    (h E g _ w nu C mu D V0 hn R' hnb hnu hno hmu hV hfz ((HeldS.keep hni).2 hS) ((HeldO.keep hnc).2 hO))
  rw [noneYet_set (waited_not hst hri hj)]
  exact hl

theorem run_loadCells_same {w w' : World} {blk : Nat} : ∀ (m q : Nat) (acc : Array Value) (s : Nat) (r : Array Value), (∀ j, j < m → ∃ u, w.cell? ⟨blk, s + (q + j), none⟩ = some u ∧ w'.cell? ⟨blk, s + (q + j), none⟩ = some u) →
    (loadCellsFrom ⟨blk, s, none⟩ q m acc).run P w = .ok r w → (loadCellsFrom ⟨blk, s, none⟩ q m acc).run P w' = .ok r w'
  | 0, q, acc, s, r, _, hr => by simp [loadCellsFrom] at hr ⊢; exact hr
  | m + 1, q, acc, s, r, hc, hr => by
    simp only [loadCellsFrom, Sem.run_bind, run_load, Addr.add_lit] at hr ⊢
    obtain ⟨u, h1, h2⟩ := hc 0 (by omega)
    simp only [Nat.add_zero] at h1 h2
    rw [h1] at hr
    rw [h2]
    simp only [Result.andThen_ok] at hr ⊢
    exact run_loadCells_same m (q + 1) _ s r (fun j hj => by have := hc (j + 1) (by omega); rwa [show q + (j + 1) = q + 1 + j from by omega] at this) hr

theorem AAny.loadD (hT : TabOK P T) {i : Nat} {o : Oper} {t : TypeId} {x : Operand} {cs : List AV} (hi : ops[i]? = some o) (hk : takeOk nt ops st sc listed i o = true) {v : AV} {ob : Prop} (hw : awanted ops o fr = some true)
    (hop : o.op = .load t x) (hx : ev fr x = .dat cs) (hf : fz = true)
    (ho : aload T fr σ t (ev fr x) = some (v, ob)) (hob : ob)
    (h : AAny P nt ops st nb sc no fz fuel (listed.setIfInBounds i true) Q (fr.put o.dst v) σ) : AAny P nt ops st nb sc no fz (fuel + 1) listed Q fr σ := by
  simp only [takeOk, Bool.and_eq_true] at hk
  obtain ⟨⟨⟨⟨⟨h1, h2⟩, h3⟩, h4⟩, h4'⟩, h5⟩ := hk
  intro E g a w nu C mu D V0 hn R hnb hnu hno hmu hV hfz hS hO
  have hdl := dstOk_lt h5
  rw [← hn] at hdl
  have hni : noSt st i = true := h4
  have hnc : sc.contains i = false := by simpa using h4'
  have hxv := VR_ev' R x
  rw [hx] at hxv
  simp only [VR, CR] at hxv
  obtain ⟨b, off, hxe, hbl, hxt, hat⟩ := hxv
  obtain ⟨z, hz, hv⟩ := aload_sound hT R ho hob (VR_ev' R x)
  obtain ⟨ag, n, ht⟩ := aload_sz ho
  have hV0 := hfz hf
  obtain ⟨vs, hvs, hone, hcell⟩ := CRat_list hat
  have hvl := CRs_length hvs
  have hle : n ≤ cs.length := by
    rw [hx] at ho
    unfold aload at ho
    rw [ht] at ho
    simp only at ho
    cases ag with
    | true =>
      simp only [Option.some.injEq, Prod.mk.injEq] at ho
      rw [← ho.2] at hob
      exact hob
    | false =>
      have := (hT.sz t false n ht w).2.2 rfl
      cases cs with
      | nil => cases ho
      | cons c cs => simp; omega
  have hall : ∀ w', DatS V0 w' → (execOp a.eval o).run P w' = .ok (.value z) w' := fun w' hw' => by
    have hsame : ∀ j, j < n → ∃ u, w.cell? ⟨b, off + (0 + j), none⟩ = some u ∧ w'.cell? ⟨b, off + (0 + j), none⟩ = some u := fun j hj => by
      have hjv : j < vs.length := by omega
      have hc := hcell j vs[j] (List.getElem?_eq_getElem hjv)
      rw [Nat.zero_add]
      refine ⟨vs[j], by rw [← R.w]; exact hc, ?_⟩
      rw [hw' b (off + j) (by rw [← hV0]; exact hbl) (by rw [← hV0]; omega), ← hV0]
      exact hc
    rw [show execOp a.eval o = (do Pure.pure (Next.value (← Instr.loadAt t (a.eval x))) : Sem Next) from by simp [execOp, hop]]
    rw [hxe] at hz ⊢
    simp only [Instr.loadAt, Instr.sureAddr, Sem.run_bind, Sem.run_pure, Result.andThen_ok] at hz ⊢
    obtain ⟨k1, k2, k3⟩ := hT.sz t ag n ht w
    obtain ⟨k1', k2', k3'⟩ := hT.sz t ag n ht w'
    cases ag with
    | true =>
      simp only [loadVar, Sem.run_bind, k1, k2, k1', k2', Result.andThen_ok, if_true, loadCells] at hz ⊢
      cases hr : (loadCellsFrom ⟨b, off, none⟩ 0 n #[]).run P w with
      | ok r w1 =>
        have hw1 : w1 = w ∧ z = .agg r := by
          rw [hr] at hz
          simp only [Result.andThen_ok, Sem.run_pure, Result.ok.injEq] at hz
          exact ⟨hz.2, hz.1.symm⟩
        rw [hw1.1] at hr
        rw [run_loadCells_same n 0 _ off r hsame hr, hw1.2]
        simp
      | halt x y => rw [hr] at hz; simp [Result.andThen] at hz
    | false =>
      have hn1 := k3 rfl
      obtain ⟨u, e1, e2⟩ := hsame 0 (by omega)
      simp only [Nat.add_zero] at e1 e2
      simp only [loadVar, Sem.run_bind, k1, k1', Result.andThen_ok, Bool.false_eq_true, if_false, run_load] at hz ⊢
      rw [e1] at hz
      rw [e2]
      simp only [Result.ok.injEq] at hz ⊢
      rw [hz.1]; simp
  have R' := R.put o.dst hv hdl
  exact wpAnyS_first (Y := DatS V0) hi (Region.noSelect_spec h1) Post_panic (fun _ => True) (fun _ _ _ _ _ _ => trivial) (fun l w _ hh => hh.2.2)
    (fun l w _ _ hh => ⟨(HeldS.keep hni).1 hh.1, (HeldO.keep hnc).1 hh.2.1, hh.2.2⟩) (fun l w _ _ hh => ⟨(HeldS.keep hni).2 hh.1, (HeldO.keep hnc).2 hh.2.1, hh.2.2⟩) fuel listed a w (Region.free_spec hi h2) (by simpa using h3) trivial (.inl ⟨awanted_sound R hw, hall⟩) ⟨hS, hO, DatS.of R hV⟩
    (h E g _ w nu C mu D V0 hn R' hnb hnu hno hmu hV hfz ((HeldS.keep hni).2 hS) ((HeldO.keep hnc).2 hO))

theorem HeldO.gone {nb : Nat} {nu : Nat → Nat} {C : Nat → Option Obj} {st : List Nat} {l : Array Bool} {i : Nat} {w : World} (hi : st.contains i = true) (hl : Nat.blt i l.size = true) : HeldO nb nu C st (l.setIfInBounds i true) w := by
  intro hh q hq
  exfalso
  have hm : i ∈ st := by simpa using hi
  have := List.all_eq_true.1 hh i hm
  have hlt : i < l.size := Nat.le_of_ble_eq_true hl
  simp [hlt] at this

theorem noneYet_mono {st : List Nat} {l : Array Bool} {i : Nat} (h : noneYet st (l.setIfInBounds i true) = true) : noneYet st l = true := by
  unfold noneYet at h ⊢
  rw [List.all_eq_true] at h ⊢
  intro s hs
  have h9 := h s hs
  by_cases e : i = s
  · subst e
    by_cases hl : i < l.size
    · simp [hl] at h9
    · simp [hl]
  · rwa [getD_set_ne false e] at h9

def mayWrite (st : List (Nat × Nat)) (sc : List Nat) (i : Nat) : Option AV → Bool
  | none => true
  | some (.loc b _) => (stOf st b).contains i
  | some (.ptr _ _) => sc.contains i
  | some _ => false

theorem AAny.one (hT : TabOK P T) {i : Nat} {o : Oper} (hp : Bool) (hi : ops[i]? = some o) (hr : Region.ready .any ops listed = [i]) (hd : dstOk nt o.dst = true) (hss : mayWrite st sc i (tgt fr o.op) = true)
    {v : AV} {fr' : Fr} {σ' : St} {ob : Prop} (hw : awanted ops o fr = some true) (ho : aop T hp o.op fr σ = some (v, fr', σ', ob)) (hob : ob)
    (h : AAny P nt ops st nb sc no false fuel (listed.setIfInBounds i true) Q (fr'.put o.dst v) σ') (hl : (Nat.blt i listed.size) = true) : AAny P nt ops st nb sc no fz (fuel + 1) listed Q fr σ := by
  intro E g a w nu C mu D V0 hn R hnb hnu hno hmu hV hfz hS hO
  have hdl := dstOk_lt hd
  rw [← hn] at hdl
  refine ⟨fun h0 => (by rw [hr] at h0; cases h0), fun j hj => ?_⟩
  rw [hr] at hj
  simp only [List.mem_singleton] at hj
  subst hj
  obtain ⟨nx, z, g', w', hrun, hnx, R', hv, hG, hK⟩ := (aop_sound hT R ho hob).2
  have hS' : HeldS nb nu C st (listed.setIfInBounds j true) w' := by
    intro q hq hh
    have hqb := Nat.lt_of_lt_of_le hq hnb
    rw [← hnu q hq, hK.1 q hqb ?_, hnu q hq]
    · exact hS q hq (noneYet_mono hh)
    · intro q0 e
      rw [e] at hss
      simp only [mayWrite] at hss
      have hm : j ∈ stOf st q := by simpa using hss
      have := List.all_eq_true.1 hh j hm
      have hlt : j < listed.size := Nat.le_of_ble_eq_true hl
      simp [hlt] at this
  have hO' : HeldO no mu D sc (listed.setIfInBounds j true) w' := by
    intro hh q hq
    rw [← hmu q hq, hK.2 q (Nat.lt_of_lt_of_le hq hno) ?_, hmu q hq]
    · exact hO (noneYet_mono hh) q hq
    · intro q0 e
      rw [e] at hss
      simp only [mayWrite] at hss
      have hm : j ∈ sc := by simpa using hss
      have := List.all_eq_true.1 hh j hm
      have hlt : j < listed.size := Nat.le_of_ble_eq_true hl
      simp [hlt] at this
  unfold wpOp
  rw [hi]
  have hw' := awanted_sound R hw
  simp only [hw', if_true]
  refine .inl ?_
  unfold Oper.wp
  rw [hrun]
  have fin := h E g' (a.put o.dst z) w' nu C mu D V0 hn (R'.put o.dst hv hdl) (Nat.le_trans hnb hG.nb) (fun q hq => (hG.nu q (Nat.lt_of_lt_of_le hq hnb)).trans (hnu q hq))
    (Nat.le_trans hno hG.V.n) (fun q hq => (hG.V.mu q (Nat.lt_of_lt_of_le hq hno)).trans (hmu q hq)) (hV.trans hG.V) (fun h => by cases h) hS' hO'
  rcases hnx with rfl | ⟨rfl, rfl⟩
  · exact ⟨⟨hS', hO', DatS.of R' (hV.trans hG.V)⟩, fin⟩
  · exact ⟨⟨hS', hO', DatS.of R' (hV.trans hG.V)⟩, fin⟩

theorem AAny.call {i : Nat} {o : Oper} {f : Operand} {args : Array Operand} {ts : Array TypeId} {fid : FuncId} {cap avs : List AV} (hi : ops[i]? = some o) (hr : Region.ready .any ops listed = [i]) (hd : dstOk nt o.dst = true) (hni : (noSt st i && (sc.contains i || Nat.beq no 0)) = true)
    (hw : awanted ops o fr = some true) (ho : o.op = .call { callee := .value f, args := args, argTypes := ts }) (hf : ev fr f = .func fid cap) (he : Go.Proofs.Enters P fid) (ha : shutAll (args.toList.map (ev fr) ++ cap) = some avs)
    (h : ACalls P fid avs σ fun e σ' => match e with | .ret v => AAny P nt ops st nb sc no false fuel (listed.setIfInBounds i true) Q (fr.put o.dst v) σ' | .panic v => Q (.panic v) fr σ') (hl : (Nat.blt i listed.size) = true) : AAny P nt ops st nb sc no fz (fuel + 1) listed Q fr σ := by
  intro E g a w nu C mu D V0 hn R hnb hnu hno hmu hVL hfz hS hO
  have hdl := dstOk_lt hd
  rw [← hn] at hdl
  refine ⟨fun h0 => (by rw [hr] at h0; cases h0), fun j hj => ?_⟩
  rw [hr] at hj
  simp only [List.mem_singleton] at hj
  subst hj
  have hw' := awanted_sound R hw
  have hfv := VR_ev' R f
  rw [hf] at hfv
  simp only [VR, CR] at hfv
  obtain ⟨cs, hfv, hcs⟩ := hfv
  have hargs : VRs g fr.tk (args.toList.map (ev fr) ++ cap) (args.toList.map a.eval ++ cs) := VRs_append (VRs_ev R _) (VRs_of_CRs hcs)
  have hc := h g.V _ R.H (CRs_of_VRs hargs ha)
  have hrun : (execOp a.eval o).run P w = .ok (.enter fid (args.toList.map a.eval ++ cs).toArray) w := by
    have e1 : args.map a.eval ++ cs.toArray = (args.toList.map a.eval ++ cs).toArray := by apply Array.ext'; simp
    simp only [execOp, ho, resolve, hfv, Deferred.ofValue, invoke, Sem.run_bind, Sem.run_pure, Result.andThen_ok, Array.empty_append, e1]
    exact he _ w
  simp only [Bool.and_eq_true] at hni
  have hst : noSt st j = true := hni.1
  unfold wpOp
  rw [hi]
  simp only [hw', if_true]
  refine .inl ?_
  unfold Oper.wp
  rw [hrun, Oper.upon_enter]
  rw [R.w] at hc
  refine hc.mono fun e w' ⟨ae, V', σ', hR, hV, hH, gr, hE⟩ => ?_
  have R' := R.step gr hH
  rw [hV] at R'
  cases ae <;> cases e <;> simp only [EndR] at hE
  · have hS' : HeldS nb nu C st (listed.setIfInBounds j true) w' := by
      rw [HeldS.keep hst]
      intro q hq hh
      have hqb := Nat.lt_of_lt_of_le hq hnb
      rw [← hS q hq hh, ← hnu q hq, ← hV, ← R.w]
      exact gr.blk _ (R.F.ltb hqb) (R.F.bxn q hqb).2.2
    have hO' : HeldO no mu D sc (listed.setIfInBounds j true) w' := by
      have h2 := hni.2
      simp only [Bool.or_eq_true] at h2
      rcases h2 with h2 | h2
      · exact HeldO.gone h2 hl
      · have h0 := Nat.eq_of_beq_eq_true h2
        intro _ q hq
        omega
    exact ⟨⟨hS', hO', DatS.of R' (hVL.trans gr.le)⟩, hR E _ _ w' nu C mu D V0 hn (R'.put o.dst (VR_of_CR hE) hdl) hnb hnu (Nat.le_trans hno gr.le.n) (fun q hq => (gr.le.mu q (Nat.lt_of_lt_of_le hq hno)).trans (hmu q hq)) (hVL.trans gr.le) (fun h => by cases h) hS' hO'⟩
  · exact ⟨_, _, _, _, hR, R'.df, hE, R'.w, hH, R'.gr⟩

end
end
end Go.AE

/- Tables of types, looked up; from the abstract side back to a call of the model. -/
set_option linter.unusedVariables false
set_option linter.unusedSimpArgs false
namespace Go.AE

structure Tabs where
  eqs : List (Nat × EqS)
  eqf : List (Nat × List EqS)
  sz : List (Nat × (Bool × Nat))
  zero : List (Nat × List AV)
  fld : List (Nat × List (Nat × Bool × Nat))
  elm : List (Nat × (Nat × Nat × Bool × Nat))
  arr : List (Nat × (Nat × Nat × Bool))
  str : List (Nat × Unit)
  int : List (Nat × IntKind)
  bld : List (Nat × (BP × List AV))
  con : List (Nat × Unit)

def Tabs.tab (L : Tabs) : Tab where
  eqs := lk L.eqs
  eqf := lk L.eqf
  sz := lk L.sz
  zero := lk L.zero
  fld t i := match lk L.fld t with | some l => l[i]? | none => none
  elm := lk L.elm
  arr := lk L.arr
  str t := match lk L.str t with | some _ => true | none => false
  int := lk L.int
  bld := lk L.bld
  con t := match lk L.con t with | some _ => true | none => false

def SzF (P : Program) (t : Nat) (x : Bool × Nat) : Prop := (∀ w : World, (isAgg t).run P w = .ok x.1 w) ∧ (∀ w : World, (sizeOf t).run P w = .ok x.2 w) ∧ (!x.1 && !(Nat.beq x.2 1)) = false
def ZeroF (P : Program) (t : Nat) (cs : List AV) : Prop := ∃ z : Value, (∀ w : World, (zeroValue t).run P w = .ok z w) ∧ z.cells.toList.map ofScalar = cs ∧ z.cells.toList.all (·.oneCell') = true
def FldsF (P : Program) : List Field → List (Nat × Bool × Nat) → Prop
  | [], [] => True
  | f :: fs, (off, b, n) :: l => (f.offset = off ∧ (Nat.beq n 0) = false ∧ (∀ w : World, (isAgg f.type).run P w = .ok b w) ∧ ∀ w : World, (sizeOf f.type).run P w = .ok n w) ∧ FldsF P fs l
  | _, _ => False
def FldF (P : Program) (t : Nat) (l : List (Nat × Bool × Nat)) : Prop := ∃ fs : Array Field, P.underlying t = some (.struct fs) ∧ FldsF P fs.toList l
def ElmF (P : Program) (t : Nat) (x : Nat × Nat × Bool × Nat) : Prop := P.underlying t = some (.slice x.1) ∧ (Nat.blt 0 x.2.1 && Nat.blt 0 x.2.2.2) = true ∧
  (∃ z : Value, (P.info? x.1).map (fun i => (i.zero, i.size, i.bytes)) = some (some z, x.2.1, x.2.2.2) ∧ Nat.beq z.cells.size x.2.1 = true ∧ z.cells.toList.all (·.oneCell') = true) ∧ ∀ w : World, (isAgg x.1).run P w = .ok x.2.2.1 w
def ArrF (P : Program) (t : Nat) (x : Nat × Nat × Bool) : Prop := ∃ e, P.underlying t = some (.array x.1 e) ∧ (Nat.blt 0 x.2.1 && Nat.blt 1 x.1) = true ∧ (∀ w : World, (isAgg e).run P w = .ok x.2.2 w) ∧ ∀ w : World, (sizeOf e).run P w = .ok x.2.1 w
def BldF (P : Program) (t : Nat) (x : BP × List AV) : Prop := ∃ z : Array Value, z.toList.map ofScalar = x.2 ∧ z.toList.all (·.oneCell') = true ∧ ∀ parts, P.built t parts = Instr.fill x.1.fn z parts
theorem BldF.rows {P : Program} {t : Nat} {l : List (Nat × Nat)} {cs : List AV} (z : Array Value) (h1 : z.toList.map ofScalar = cs) (h2 : z.toList.all (·.oneCell') = true) (h3 : ∀ parts, P.built t parts = Instr.fill (fun i => l.toArray[i]?) z parts) : BldF P t (.rows l, cs) :=
  ⟨z, h1, h2, fun parts => by rw [h3]; congr 1; funext i; simp [BP.fn]⟩
theorem BldF.each {P : Program} {t n : Nat} {cs : List AV} (z : Array Value) (h1 : z.toList.map ofScalar = cs) (h2 : z.toList.all (·.oneCell') = true) (h3 : ∀ parts, P.built t parts = Instr.fill (fun i => some (i * n, n)) z parts) : BldF P t (.each n, cs) :=
  ⟨z, h1, h2, h3⟩
def ConF (P : Program) (t : Nat) (_ : Unit) : Prop := ∃ d, P.underlying t = some d ∧ (match d with | .interface _ => false | _ => true) = true

theorem FldsF.get {P : Program} : ∀ {fs : List Field} {l : List (Nat × Bool × Nat)} {i off : Nat} {b : Bool} {n : Nat}, FldsF P fs l → l[i]? = some (off, b, n) →
    ∃ f, fs[i]? = some f ∧ f.offset = off ∧ n ≠ 0 ∧ ∀ w : World, (isAgg f.type).run P w = .ok b w ∧ (sizeOf f.type).run P w = .ok n w
  | [], [], i, off, b, n, _, h => by simp at h
  | [], _ :: _, i, off, b, n, hf, h => by simp [FldsF] at hf
  | _ :: _, [], i, off, b, n, hf, h => by simp at h
  | f :: fs, (o', b', n') :: l, i, off, b, n, hf, h => by
    obtain ⟨⟨h1, h2, h3, h4⟩, h5⟩ := hf
    cases i with
    | zero =>
      simp only [List.getElem?_cons_zero, Option.some.injEq, Prod.mk.injEq] at h
      obtain ⟨rfl, rfl, rfl⟩ := h
      exact ⟨f, by simp, h1, Nat.ne_of_beq_eq_false h2, fun w => ⟨h3 w, h4 w⟩⟩
    | succ i =>
      simp only [List.getElem?_cons_succ] at h ⊢
      exact FldsF.get h5 h

def EqfF' (P : Program) (t : Nat) (l : List EqS) : Prop := ∃ fs : Array Field, P.underlying t = some (.struct fs) ∧ P.stoodInHeld t = false ∧ P.eqGuardType P.depth t = false ∧ EqfF P 0 fs.toList l

structure TabsOK (P : Program) (L : Tabs) : Prop where
  eqs : AllOf (EqsF P) L.eqs
  eqf : AllOf (EqfF' P) L.eqf
  sz : AllOf (SzF P) L.sz
  zero : AllOf (ZeroF P) L.zero
  fld : AllOf (FldF P) L.fld
  elm : AllOf (ElmF P) L.elm
  arr : AllOf (ArrF P) L.arr
  str : AllOf (fun t _ => P.underlying t = some .string) L.str
  int : AllOf (fun t k => P.underlying t = some (.int k)) L.int
  bld : AllOf (BldF P) L.bld
  con : AllOf (ConF P) L.con

theorem TabsOK.tab {P : Program} {L : Tabs} (h : TabsOK P L) : TabOK P L.tab where
  eqs t s ht := lk_all h.eqs ht
  eqf t l ht := lk_all h.eqf ht
  sz t b n ht w := by
    obtain ⟨h1, h2, h3⟩ := lk_all h.sz ht
    refine ⟨h1 w, h2 w, fun hb => ?_⟩
    subst hb
    simpa using h3
  zero t cs ht := by
    obtain ⟨z, h1, h2, h3⟩ := lk_all h.zero ht
    exact ⟨z, h1, fun V => by rw [← h2]; exact CRs_ofScalar V _, fun x hx => List.all_eq_true.1 h3 x hx⟩
  fld t i off b n ht := by
    simp only [Tabs.tab] at ht
    split at ht
    · rename_i l hl
      obtain ⟨fs, h1, h2⟩ := lk_all h.fld hl
      obtain ⟨f, k1, k2, k3, k4⟩ := FldsF.get h2 ht
      exact ⟨fs, f, h1, by simpa using k1, k2, k3, k4⟩
    · cases ht
  elm t e n b by_ ht := by
    obtain ⟨h1, h2, ⟨z, h3, h4, h5⟩, h6⟩ := lk_all h.elm ht
    obtain ⟨i, hi, hz⟩ := Option.map_eq_some_iff.1 h3
    simp only [Prod.mk.injEq] at hz
    simp only [Bool.and_eq_true] at h2
    exact ⟨h1, Nat.le_of_ble_eq_true h2.1, Nat.le_of_ble_eq_true h2.2, ⟨i, z, hi, hz.2.1, hz.2.2, hz.1, Nat.eq_of_beq_eq_true h4, fun x hx => List.all_eq_true.1 h5 x hx⟩, h6⟩
  arr t l n b ht := by
    obtain ⟨e, h1, h2, h3, h4⟩ := lk_all h.arr ht
    simp only [Bool.and_eq_true] at h2
    exact ⟨e, h1, Nat.le_of_ble_eq_true h2.1, Nat.le_of_ble_eq_true h2.2, fun w => ⟨h3 w, h4 w⟩⟩
  str t ht := by
    simp only [Tabs.tab] at ht
    split at ht
    · rename_i u hu; exact lk_all h.str hu
    · cases ht
  int t k ht := lk_all h.int ht
  bld t pl cs ht := by
    obtain ⟨z, h1, h2, h3⟩ := lk_all h.bld ht
    have h1 : z.toList.map ofScalar = cs := h1
    exact ⟨z, fun V => by rw [← h1]; exact CRs_ofScalar V _, fun x hx => List.all_eq_true.1 h2 x hx, h3⟩
  con t ht := by
    simp only [Tabs.tab] at ht
    split at ht
    · rename_i u hu
      obtain ⟨d, h1, h2⟩ := lk_all h.con hu
      exact ⟨d, h1, fun ms e => by subst e; simp at h2⟩
    · cases ht

def viewOf (w : World) : View := { n := 0, mu := fun _ => 0, ext := fun b => match w.heap[b]? with | some (.cells c _ _) => c.size | _ => 0, w := w }

theorem HInv_viewOf {w : World} (hg : GOK (viewOf w)) : HInv (viewOf w) [] := ⟨rfl, fun i cs h => by simp at h, fun i h => by simp [viewOf] at h, fun i j h => by simp [viewOf] at h, hg⟩

theorem calls_true {P : Program} {f : FuncId} {args : List AV} {vs : List Value} {w : World} (hg : GOK (viewOf w)) (h : ACalls P f args [] fun e _ => e = .ret (.bool true)) (hv : CRs (viewOf w) args vs) :
    Calls P f vs.toArray w fun e w' => e = .returned (.bool true) ∧ Go.RowKit.Below w.heap.size w w' := by
  refine (h (viewOf w) vs (HInv_viewOf hg) hv).mono fun e w' ⟨ae, V', σ', hR, hV, hH, gr, hE⟩ => ?_
  subst hR
  cases e <;> simp only [EndR, CR] at hE
  subst hE
  refine ⟨rfl, ?_⟩
  rw [← hV]
  exact ⟨gr.os, gr.tape, gr.output, gr.le.size, fun k hk => gr.blk k hk fun i hi => by simp [viewOf] at hi⟩

end Go.AE

/- More rules: scopes, the bytes of a string, append at either room; a callee that sees nothing of the heap; contracts of the kit's. -/
set_option linter.unusedVariables false
set_option linter.unusedSimpArgs false
namespace Go.AE

section
variable {P : Program} {T : Tab} {nt : Nat} {Q : APost} {fr : Fr} {σ : St}

@[reducible] def scopeQ (Q : APost) : APost
  | .goto _, _, _ => False
  | e, fr, σ => Q e fr σ

theorem ACode.scope {c : Code} (h : ACode P nt c (scopeQ Q) fr σ) : ACode P nt (.scope c) Q fr σ := by
  intro E g a w hn R
  refine wp_scope_straight (wp_mono (h E g a w hn R) fun e a' w' ⟨ax, g', fr', σ', hq, hr⟩ => ?_)
  cases ax <;> cases e <;> simp only [RelX] at hr
  · exact ⟨_, g', fr', σ', hq, hr⟩
  · exact ⟨_, g', fr', σ', hq, hr⟩
  · exact hq.elim
  · exact ⟨_, g', fr', σ', hq, hr⟩
  · exact ⟨_, g', fr', σ', hq, hr⟩

def View.to (V : View) (w : World) (n : Nat) : View := { V with w := w, ext := fun b => if b < V.w.heap.size then V.ext b else n }

theorem Gr.below {V : View} {w : World} (h : Go.RowKit.Below V.w.heap.size V.w w) (n : Nat) : Gr V (V.to w n) where
  le := ⟨Nat.le_refl _, fun _ _ => rfl, h.size, fun b hb => by simp only [View.to, if_pos hb]; exact Nat.le_refl _, fun b o hb _ => cell_of_heap (h.block b hb)⟩
  os := h.os
  tape := h.tape
  output := h.output
  blk b hb _ := h.block b hb
  ext b hb := by simp only [View.to, if_pos hb]
  new i h k := by simp only [View.to] at k; omega

theorem HInv.below {V : View} {σ : St} {w : World} (hH : HInv V σ) (h : Go.RowKit.Below V.w.heap.size V.w w) (n : Nat) : HInv (V.to w n) σ where
  n := hH.n
  ob i cs hi := by
    obtain ⟨c, t, h1, h2, h3⟩ := hH.ob i cs hi
    exact ⟨c, t, (h.block _ (lt_of_heap h1)).trans h1, CRs_mono (Gr.below h n).le _ _ h2, h3⟩
  ox i hi := by
    have := hH.lt hi
    simp only [View.to]
    rw [if_pos this]
    exact hH.ox i hi
  inj := hH.inj
  gl := GOK_mono (Gr.below h n).le hH.gl

theorem ACalls.of_below {f : FuncId} {args : List AV} {R : AEnd → Prop}
    (h : ∀ (V : View) (vs : List Value), HInv V σ → CRs V args vs → Calls P f vs.toArray V.w fun e w' => Go.RowKit.Below V.w.heap.size V.w w' ∧ ∃ ae, R ae ∧ ∀ V' : View, V'.w = w' → EndR V' ae e) :
    ACalls P f args σ fun e s => σ = s ∧ R e :=
  fun V vs hH hv => (h V vs hH hv).mono fun e w' ⟨hb, ae, hR, hE⟩ => ⟨ae, V.to w' 0, σ, ⟨rfl, hR⟩, rfl, hH.below hb 0, Gr.below hb 0, hE _ rfl⟩

def bytesAV (b : List UInt8) : List AV := b.map fun c => .int .u8 (c.toNat : Int)

theorem AOps.bytes (hT : TabOK P T) {ops : Array Oper} {o : Oper} {rest : List Oper} {s d e by_ : Nat} {x : Operand} {b : List UInt8} (hw : awanted ops o fr = some true) (ho : o.op = .convert s d x) (hd : dstOk nt o.dst = true) (hx : ev fr x = .str b)
    (hs : T.str s = true) (he : T.elm d = some (e, 1, false, by_)) (hi : T.int e = some .u8)
    (h : AOps P nt ops rest Q (fr.put o.dst (.slice (bytesAV b) b.length .no)) σ) : AOps P nt ops (o :: rest) Q fr σ := by
  intro E g a w hn R
  have hdl := dstOk_lt hd
  rw [← hn] at hdl
  have hxv := VR_ev' R x
  rw [hx] at hxv
  simp only [VR, CR] at hxv
  obtain ⟨y, hxv, rfl⟩ := hxv
  have hws := awanted_sound R hw
  have hu := (hT.elm d e 1 false by_ he).1
  have hlen : y.data.toList.length = y.size := by rw [Array.length_toList]; rfl
  have hrun : (execOp a.eval o).run P w = .ok (.value (.slice (some ⟨w.heap.size, 0, none⟩) y.size (grownCap w y.size 0 e))) (Lib.bytesWorld w e y) := by
    simp only [execOp, ho, hxv, Sem.run_bind, Lib.run_convert_string_bytes w s d e y (hT.str s hs) hu (hT.int e .u8 hi), Result.andThen_ok, Sem.run_pure]
  have hsz : w.heap.size = g.V.w.heap.size := by rw [R.w]
  have hb : Go.RowKit.Below g.V.w.heap.size g.V.w (Lib.bytesWorld w e y) := by
    rw [R.w]
    exact ⟨rfl, rfl, rfl, by rw [Lib.bytesWorld_size]; omega, fun k hk => Lib.bytesWorld_at_old w e y k hk⟩
  have R' := R.step (Gr.below hb y.size) (R.H.below hb y.size)
  refine wpList_take hws hrun (.inl rfl) (h E _ _ _ hn (R'.put o.dst (VR_of_CR (v := Value.slice (some ⟨w.heap.size, 0, none⟩) y.size (grownCap w y.size 0 e)) ?_) hdl))
  have hcap : y.size ≤ grownCap w y.size 0 e := grownCap_ge w y.size 0 e
  rw [hlen]
  simp only [CR]
  refine ⟨rfl, _, _, rfl, hcap, fun h => (by cases h), .inr ⟨w.heap.size, 0, rfl, ?_, ?_, ?_⟩⟩
  · show _ < (Lib.bytesWorld w e y).heap.size
    rw [Lib.bytesWorld_size]; omega
  · simp only [View.to]
    rw [if_neg (by omega)]
    simp [bytesAV, hlen]
  · refine CRat_of_list (vs := y.data.toList.map fun c => .int .u8 (c.toNat : Int)) ?_ ?_ ?_
    · simp only [bytesAV]
      generalize y.data.toList = l
      induction l with
      | nil => simp [CRs]
      | cons c l ih => simp only [List.map_cons, CRs]; exact ⟨_, _, rfl, by simp [CR], ih⟩
    · intro z hz
      obtain ⟨c, _, rfl⟩ := List.mem_map.1 hz
      rfl
    · intro j v hj
      rw [List.getElem?_map] at hj
      obtain ⟨c, hc, rfl⟩ := Option.map_eq_some_iff.1 hj
      have hjl : j < y.size := by rw [← hlen]; exact (List.getElem?_eq_some_iff.1 hc).1
      show (Lib.bytesWorld w e y).cell? _ = _
      rw [Nat.zero_add, Lib.bytesWorld_cell w e y j hjl]
      simp [List.getD, hc]

def Can (tk : List Nat) (sz n len : Nat) : Own → Prop
  | .exact => len = n * sz
  | .tok u s => s = sz ∧ u ∈ tk
  | .no => False

def Own.is (u : Nat) : Own → Prop
  | .tok t _ => t = u
  | _ => False

theorem Rel.fewer {E : Ent} {g : Gh} {fr : Fr} {σ : St} {a : Act} {w : World} (h : Rel E g fr σ a w) (tk : List Nat) (hs : ∀ t, t ∈ tk → t ∈ fr.tk) : Rel E g { fr with tk := tk } σ a w := by
  have hG : GLE g g fr.tk tk := ⟨VLE.refl _, fun _ _ => rfl, fun _ _ => rfl, Nat.le_refl _, Nat.le_refl _, Nat.le_refl _, fun t ht _ => ⟨hs t ht, rfl, rfl, rfl⟩⟩
  refine ⟨h.w, h.H, ⟨h.F.nb, h.F.ni, h.F.nx, ?_, h.F.bxn, h.F.bxi, h.F.it, h.F.iti, fun t ht => h.F.tk t (hs t ht), fun t ht => h.F.tkc t (hs t ht), fun t u ht hu => h.F.tki t u (hs t ht) (hs u hu)⟩, fun k => VR_mono hG (h.sl k), h.df, h.nt, h.gr⟩
  intro i cs hi
  obtain ⟨c, e, h1, h2, h3⟩ := h.F.bx i cs hi
  exact ⟨c, e, h1, VRs_mono hG h2, h3⟩

theorem AOps.append (hT : TabOK P T) {ops : Array Oper} {o : Oper} {rest : List Oper} {t e sz by_ n k : Nat} {b : Bool} {x y : Operand} {cs ds : List AV} {own own' : Own} (tk : List Nat) (hw : awanted ops o fr = some true)
    (ho : o.op = .call { callee := .builtin .append, args := #[x, y], argTypes := #[t, t] }) (hd : dstOk nt o.dst = true) (hx : ev fr x = .slice cs n own) (hy : ev fr y = .slice ds k own') (he : T.elm t = some (e, sz, b, by_))
    (hc : Can fr.tk sz n cs.length own) (hk : 0 < k) (hds : ds.length = k * sz) (hroom : (n + k) * by_ ≤ room) (hs : ∀ u, u ∈ tk → u ∈ fr.tk ∧ ¬ own.is u)
    (h : AOps P nt ops rest Q ({ fr with tk := fr.nx :: tk, nx := fr.nx + 1 }.put o.dst (.slice (cs ++ ds) (n + k) (.tok fr.nx sz))) σ) : AOps P nt ops (o :: rest) Q fr σ := by
  intro E g a w hn R
  have hdl := dstOk_lt hd
  rw [← hn] at hdl
  have hws := awanted_sound R hw
  have key : ∃ tk' ob, aop T false o.op fr σ = some (.slice (cs ++ ds) (n + k) (.tok fr.nx sz), { fr with tk := fr.nx :: tk', nx := fr.nx + 1 }, σ, ob) ∧ ob ∧ ∀ u, u ∈ tk → u ∈ tk' := by
    cases own with
    | exact =>
      exact ⟨fr.tk, cs.length = n * sz ∧ ds.length = k * sz ∧ 0 < k ∧ (n + k) * by_ ≤ room, by simp [ho, aop, chk, hx, hy, aappend, he], ⟨hc, hds, hk, hroom⟩, fun u hu => (hs u hu).1⟩
    | tok u s =>
      obtain ⟨rfl, hu⟩ := hc
      refine ⟨dropTok fr.tk (some u), u ∈ fr.tk ∧ ds.length = k * s ∧ (n + k) * by_ ≤ room, by simp [ho, aop, chk, hx, hy, aappend, he], ⟨hu, hds, hroom⟩, fun v hv => List.mem_filter.2 ⟨(hs v hv).1, ?_⟩⟩
      have := (hs v hv).2
      simp only [Own.is] at this
      simp [Ne.symm this]
    | no => exact hc.elim
  obtain ⟨tk', ob, ha, hob, hsub⟩ := key
  obtain ⟨nx, z, g', w', hrun, hnx, R', hv, _, _⟩ := (aop_sound hT R ha hob).2
  have hsub' : ∀ u, u ∈ fr.nx :: tk → u ∈ fr.nx :: tk' := fun u hu => by
    rcases List.mem_cons.1 hu with rfl | hu
    · simp
    · exact List.mem_cons_of_mem _ (hsub u hu)
  have R2 := R'.fewer (fr.nx :: tk) hsub'
  have hG : GLE g' g' (fr.nx :: tk') (fr.nx :: tk) := ⟨VLE.refl _, fun _ _ => rfl, fun _ _ => rfl, Nat.le_refl _, Nat.le_refl _, Nat.le_refl _, fun t ht _ => ⟨hsub' t ht, rfl, rfl, rfl⟩⟩
  exact wpList_take hws hrun hnx (h E g' _ _ hn (R2.put o.dst (VR_mono hG hv) hdl))

mutual
def closed : AV → Bool
  | .ptr _ _ => false
  | .dat cs => closedAll cs
  | .slice cs _ _ => closedAll cs
  | .func _ cs => closedAll cs
  | .iface _ v => closed v
  | .agg cs => closedAll cs
  | .tuple cs => closedAll cs
  | _ => true
def closedAll : List AV → Bool
  | [] => true
  | a :: xs => closed a && closedAll xs
end

mutual
theorem CR_closed {V V' : View} (hw : V'.w = V.w) (he : V'.ext = V.ext) : ∀ (a : AV) (v : Value), closed a = true → CR V a v → CR V' a v
  | .any, _, _, _ => by simp [CR]
  | .bool b, v, _, hv => by simpa [CR] using hv
  | .int k n, v, _, hv => by simpa [CR] using hv
  | .str s, v, _, hv => by simpa [CR] using hv
  | .nilp, v, _, hv => by simpa [CR] using hv
  | .ptr i o, v, hc, _ => by simp [closed] at hc
  | .loc _ _, _, _, hv => by simp [CR] at hv
  | .iter _, _, _, hv => by simp [CR] at hv
  | .dat cs, v, hc, hv => by
    simp only [closed] at hc
    simp only [CR] at hv ⊢
    obtain ⟨b, o, e, hb, hx, hat⟩ := hv
    exact ⟨b, o, e, by rw [hw]; exact hb, by rw [he]; exact hx, CRat_closed hw he cs b o hc hat⟩
  | .slice cs n own, v, hc, hv => by
    simp only [closed] at hc
    simp only [CR] at hv ⊢
    obtain ⟨hp, A, cap, e, hnc, ho, hA⟩ := hv
    refine ⟨hp, A, cap, e, hnc, ho, ?_⟩
    rcases hA with hA | ⟨b, o, eA, hb, hx, hat⟩
    · exact .inl hA
    · exact .inr ⟨b, o, eA, by rw [hw]; exact hb, by rw [he]; exact hx, CRat_closed hw he cs b o hc hat⟩
  | .func f cap, v, hc, hv => by
    simp only [closed] at hc
    simp only [CR] at hv ⊢
    obtain ⟨vs, e, h⟩ := hv
    exact ⟨vs, e, CRs_closed hw he cap vs hc h⟩
  | .nilFunc, v, _, hv => by simpa [CR] using hv
  | .iface t a, v, hc, hv => by
    simp only [closed] at hc
    simp only [CR] at hv ⊢
    obtain ⟨x, e, h⟩ := hv
    exact ⟨x, e, CR_closed hw he a x hc h⟩
  | .nilIface, v, _, hv => by simpa [CR] using hv
  | .agg cs, v, hc, hv => by
    simp only [closed] at hc
    simp only [CR] at hv ⊢
    obtain ⟨vs, e, h, h1⟩ := hv
    exact ⟨vs, e, CRs_closed hw he cs vs hc h, h1⟩
  | .tuple cs, v, hc, hv => by
    simp only [closed] at hc
    simp only [CR] at hv ⊢
    obtain ⟨vs, e, h⟩ := hv
    exact ⟨vs, e, CRs_closed hw he cs vs hc h⟩
theorem CRs_closed {V V' : View} (hw : V'.w = V.w) (he : V'.ext = V.ext) : ∀ (xs : List AV) (vs : List Value), closedAll xs = true → CRs V xs vs → CRs V' xs vs
  | [], vs, _, hv => by simpa [CRs] using hv
  | a :: xs, vs, hc, hv => by
    simp only [closedAll, Bool.and_eq_true] at hc
    simp only [CRs] at hv ⊢
    obtain ⟨v, r, e, h1, h2⟩ := hv
    exact ⟨v, r, e, CR_closed hw he a v hc.1 h1, CRs_closed hw he xs r hc.2 h2⟩
theorem CRat_closed {V V' : View} (hw : V'.w = V.w) (he : V'.ext = V.ext) : ∀ (xs : List AV) (b o : Nat), closedAll xs = true → CRat V xs b o → CRat V' xs b o
  | [], b, o, _, _ => by simp [CRat]
  | a :: xs, b, o, hc, hv => by
    simp only [closedAll, Bool.and_eq_true] at hc
    simp only [CRat] at hv ⊢
    obtain ⟨⟨v, h0, h1, hr⟩, h2⟩ := hv
    exact ⟨⟨v, by rw [hw]; exact h0, h1, CR_closed hw he a v hc.1 hr⟩, CRat_closed hw he xs b (o + 1) hc.2 h2⟩
end

theorem GOK_closed {V V' : View} (hw : V'.w = V.w) (he : V'.ext = V.ext) (h : GOK V) : GOK V' := by
  refine ⟨?_, fun x hx => ?_⟩
  · have hall : theG.all (fun x => closedAll x.2) = true := by decide
    revert hall
    have h1 := h.1
    generalize theG = l at h1
    intro hall
    induction l with
    | nil => exact trivial
    | cons x l ih =>
      simp only [List.all_cons, Bool.and_eq_true] at hall
      exact ⟨CR_closed hw he _ _ (by simpa [closed] using hall.1) h1.1, ih h1.2 hall.2⟩
  · obtain ⟨m, hm⟩ := h.2 x hx
    exact ⟨m, CR_closed hw he _ _ rfl hm⟩

def AEnd.closed : AEnd → Bool
  | .ret v => AE.closed v
  | .panic v => AE.closed v

theorem ACalls.frame {f : FuncId} {args : List AV} {R : AEnd → St → Prop} (h : ACalls P f args [] R) (ha : closedAll args = true) (hr : ∀ e s, R e s → e.closed = true) : ACalls P f args σ fun e s => σ = s ∧ ∃ s', R e s' := by
  intro V vs hH hv
  let V0 : View := { V with n := 0 }
  have hH0 : HInv V0 [] := ⟨rfl, fun i cs h => by simp at h, fun i h => by simp [V0] at h, fun i j h => by simp [V0] at h, GOK_closed (V := V) (V' := V0) rfl rfl hH.gl⟩
  refine (h V0 vs hH0 (CRs_closed (V := V) (V' := V0) rfl rfl _ _ ha hv)).mono fun e w' ⟨ae, V1, s', hR, hw, hH1, gr, hE⟩ => ?_
  let V' : View := { n := V.n, mu := V.mu, ext := V1.ext, w := V1.w }
  have hbl : ∀ b, b < V.w.heap.size → V1.w.heap[b]? = V.w.heap[b]? := fun b hb => gr.blk b hb fun i hi => by simp [V0] at hi
  have gr' : Gr V V' := ⟨⟨Nat.le_refl _, fun _ _ => rfl, gr.le.size, gr.le.ext, gr.le.cell⟩, gr.os, gr.tape, gr.output, fun b hb _ => hbl b hb, gr.ext, fun i h k => by simp only [V'] at k; omega⟩
  refine ⟨ae, V', σ, ⟨rfl, s', hR⟩, hw, ⟨hH.n, fun i cs hi => ?_, fun i hi => ?_, hH.inj, GOK_mono gr'.le hH.gl⟩, gr', ?_⟩
  · obtain ⟨c, t, h1, h2, h3⟩ := hH.ob i cs hi
    exact ⟨c, t, (hbl _ (lt_of_heap h1)).trans h1, CRs_mono gr'.le _ _ h2, h3⟩
  · exact (gr.ext _ (hH.lt hi)).trans (hH.ox i hi)
  · have hc := hr _ _ hR
    cases ae <;> cases e <;> simp only [EndR] at hE ⊢
    · exact CR_closed (V := V1) (V' := V') rfl rfl _ _ hc hE
    · obtain ⟨x, e1, e2⟩ := hE
      exact ⟨x, e1, CR_closed (V := V1) (V' := V') rfl rfl _ _ hc e2⟩

end
end Go.AE

