/-
The whole way through a function's code.
-/
import Derived.Test.YtlaohcpkecmhnaaOwnDraw2

set_option linter.all false

namespace Go.Own
open Go (Value IntKind BinOp UnOp TypeId FuncId)

variable {P : Program}

/-! ### The whole way -/
structure LoopO where
  pre : St
  wk : WkO := {}
  e : AExit
  post : St

structure WeakO where
  s : St
  wk : WkO := {}

structure Wy where
  o : Orc := {}
  loop : List (Nat × LoopO) := []
  weak : List (Nat × WeakO) := []
  iter : List (Nat × List Wy) := []

/-- The rounds of a loop, one way for each. -/
inductive Un (P : Program) (n : Nat) (c : Code) (e : AExit) (s' : St) : Nat → St → Prop
  | last {s} : e ≠ .normal → T P n c s e s' → Un P n c e s' 0 s
  | step {s s1 d} : T P n c s .normal s1 → Un P n c e s' d s1 → Un P n c e s' (d + 1) s

theorem Un.loop {n : Nat} {c : Code} {e : AExit} {s' : St} {d : Nat} {s : St} (u : Un P n c e s' d s) : T P n (.loop c) s e s' := by
  refine T.loop (Un P n c e s') ?_ u
  intro d s h
  cases h with
  | last h1 h2 => exact .inr ⟨h1, h2⟩
  | step h1 h2 => exact .inl ⟨_, _, by omega, h2, h1⟩

def rounds (f : Wy → St → Option (AExit × St × List Prop)) : List Wy → St → Option (AExit × St × List Prop)
  | [], _ => none
  | y :: ys, s => match f y s with
    | none => none
    | some (.normal, s1, p) => match rounds f ys s1 with
      | none => none
      | some (e, s2, q) => some (e, s2, p ++ q)
    | some (.exit i, s1, p) => some (.exit i, s1, p)
    | some (.ret, s1, p) => some (.ret, s1, p)

theorem rounds_sound {n : Nat} {c : Code} {f : Wy → St → Option (AExit × St × List Prop)} (hf : ∀ y s e s' vc, f y s = some (e, s', vc) → AllP vc → T P n c s e s') : ∀ (ys : List Wy) (s : St) (e : AExit) (s' : St) (vc : List Prop), rounds f ys s = some (e, s', vc) → AllP vc → ∃ d, Un P n c e s' d s
  | [], _, _, _, _, h, _ => by simp [rounds] at h
  | y :: ys, s, e, s', vc, h, hv => by
    simp only [rounds] at h
    split at h
    · simp at h
    · rename_i s1 p h1
      split at h
      · simp at h
      rename_i e2 s2 q h2
      simp only [Option.some.injEq, Prod.mk.injEq] at h
      obtain ⟨rfl, rfl, rfl⟩ := h
      rw [AllP.app] at hv
      obtain ⟨d, u⟩ := rounds_sound hf ys s1 _ _ _ h2 hv.2
      exact ⟨d + 1, .step (hf _ _ _ _ _ h1 hv.1) u⟩
    · rename_i i s1 p h1
      simp only [Option.some.injEq, Prod.mk.injEq] at h
      obtain ⟨rfl, rfl, rfl⟩ := h
      exact ⟨0, .last (by simp) (hf _ _ _ _ _ h1 hv)⟩
    · rename_i s1 p h1
      simp only [Option.some.injEq, Prod.mk.injEq] at h
      obtain ⟨rfl, rfl, rfl⟩ := h
      exact ⟨0, .last (by simp) (hf _ _ _ _ _ h1 hv)⟩

def condOf (o : Orc) (c : Operand) (t : List (Nat × V)) : Option (Bool × List Prop) := decideB o c (evalV (tmpOf t) c)

def runRegion (P : Program) (o : Orc) (n : Nat) (ops : Array Oper) (draw : Bool) (s : St) : Option (St × List Prop) :=
  match draw with
  | false => match runOps P o n ops ops.toList s.t s.h with
    | some (t', h', p) => some (⟨t', h'⟩, p)
    | none => none
  | true => match drawOps P o n ops ops.toList s.t s.h with
    | some (rs, t', h', p) => match orderOk ops.toList rs [] 0 with
      | true => some (⟨t', h'⟩, (P.follows .mixedOrders = true) :: p)
      | false => none
    | none => none

theorem runRegion_sound {o : Orc} {n id : Nat} {ops : Array Oper} {draw : Bool} {s s' : St} {p : List Prop} (h : runRegion P o n ops draw s = some (s', p)) (hp : AllP p) : T P n (.region id ops draw) s .normal s' := by
  unfold runRegion at h
  cases draw with
  | false =>
    simp only at h
    split at h
    · rename_i hr
      simp only [Option.some.injEq, Prod.mk.injEq] at h
      obtain ⟨rfl, rfl⟩ := h
      exact T.region hr hp
    · simp at h
  | true =>
    simp only at h
    split at h
    · rename_i hr
      split at h
      · rename_i ho
        simp only [Option.some.injEq, Prod.mk.injEq] at h
        obtain ⟨rfl, rfl⟩ := h
        exact T.draw hp.1 hr hp.2 ho
      · simp at h
    · simp at h

/-- What comes behind a region, or ahead of it: a state that is looked at as another one. -/
def run (P : Program) (n : Nat) : Code → Wy → Nat → St → Option (AExit × St × List Prop)
  | .skip, _, _, s => some (.normal, s, [])
  | .label _, _, _, s => some (.normal, s, [])
  | .exit i, _, _, s => some (.exit i, s, [])
  | .ret, _, _, s => some (.ret, s, [])
  | .region id ops draw, y, _, s => match lk y.weak id with
    | none => match runRegion P y.o n ops draw s with
      | some (s', p) => some (.normal, s', p)
      | none => none
    | some s1 => match wkS s1.wk s s1.s with
      | none => none
      | some q => match runRegion P y.o n ops draw s1.s with
        | some (s', p) => some (.normal, s', q ++ p)
        | none => none
  | .seq a b, y, k, s => match run P n a y k s with
    | some (.normal, s1, p) => match run P n b y k s1 with
      | some (e, s2, q) => some (e, s2, p ++ q)
      | none => none
    | some (.exit i, s1, p) => some (.exit i, s1, p)
    | some (.ret, s1, p) => some (.ret, s1, p)
    | none => none
  | .cond c a b, y, k, s => match condOf y.o c s.t with
    | some (true, p) => match run P n a y k s with
      | some (e, s1, q) => some (e, s1, p ++ q)
      | none => none
    | some (false, p) => match run P n b y k s with
      | some (e, s1, q) => some (e, s1, p ++ q)
      | none => none
    | none => none
  | .block i c, y, _, s => match run P n c y i s with
    | some (.normal, s1, p) => some (.normal, s1, p)
    | some (.ret, s1, p) => some (.ret, s1, p)
    | some (.exit j, s1, p) => match Nat.beq j i with
      | true => some (.normal, s1, p)
      | false => some (.exit j, s1, p)
    | none => none
  | .loop c, y, k, s => match lk y.loop k with
    | some l => match wkS l.wk s l.pre with
      | some q => some (l.e, l.post, q ++ [T P n (.loop c) l.pre l.e l.post])
      | none => none
    | none => match lk y.iter k with
      | some ys => rounds (fun y s => run P n c y k s) ys s
      | none => none
  | _, _, _, _ => none

theorem run_sound {n : Nat} : ∀ (c : Code) (y : Wy) (k : Nat) (s : St) (e : AExit) (s' : St) (vc : List Prop), run P n c y k s = some (e, s', vc) → AllP vc → T P n c s e s' := by
  intro c
  induction c with
  | skip =>
    intro y k s e s' vc h hv
    simp only [run, Option.some.injEq, Prod.mk.injEq] at h
    obtain ⟨rfl, rfl, rfl⟩ := h
    exact T.skip
  | label l =>
    intro y k s e s' vc h hv
    simp only [run, Option.some.injEq, Prod.mk.injEq] at h
    obtain ⟨rfl, rfl, rfl⟩ := h
    exact T.label
  | exit i =>
    intro y k s e s' vc h hv
    simp only [run, Option.some.injEq, Prod.mk.injEq] at h
    obtain ⟨rfl, rfl, rfl⟩ := h
    exact T.exit
  | ret =>
    intro y k s e s' vc h hv
    simp only [run, Option.some.injEq, Prod.mk.injEq] at h
    obtain ⟨rfl, rfl, rfl⟩ := h
    exact T.ret
  | region id ops draw =>
    intro y k s e s' vc h hv
    simp only [run] at h
    split at h
    · split at h
      · rename_i hr
        simp only [Option.some.injEq, Prod.mk.injEq] at h
        obtain ⟨rfl, rfl, rfl⟩ := h
        exact runRegion_sound hr hv
      · simp at h
    · split at h
      · simp at h
      rename_i hw
      split at h
      · rename_i hr
        simp only [Option.some.injEq, Prod.mk.injEq] at h
        obtain ⟨rfl, rfl, rfl⟩ := h
        rw [AllP.app] at hv
        exact T.pre (Weak.of_wk hw hv.1) (runRegion_sound hr hv.2)
      · simp at h
  | seq a b iha ihb =>
    intro y k s e s' vc h hv
    simp only [run] at h
    split at h
    · rename_i s1 p ha
      split at h
      · rename_i e2 s2 q hb
        simp only [Option.some.injEq, Prod.mk.injEq] at h
        obtain ⟨rfl, rfl, rfl⟩ := h
        rw [AllP.app] at hv
        exact T.seq (iha y k s _ _ _ ha hv.1) (ihb y k s1 _ _ _ hb hv.2)
      · simp at h
    · rename_i i s1 p ha
      simp only [Option.some.injEq, Prod.mk.injEq] at h
      obtain ⟨rfl, rfl, rfl⟩ := h
      exact T.seqX (iha y k s _ _ _ ha hv) (by simp)
    · rename_i s1 p ha
      simp only [Option.some.injEq, Prod.mk.injEq] at h
      obtain ⟨rfl, rfl, rfl⟩ := h
      exact T.seqX (iha y k s _ _ _ ha hv) (by simp)
    · simp at h
  | cond c a b iha ihb =>
    intro y k s e s' vc h hv
    simp only [run] at h
    split at h
    · rename_i p hc
      split at h
      · rename_i e1 s1 q ha
        simp only [Option.some.injEq, Prod.mk.injEq] at h
        obtain ⟨rfl, rfl, rfl⟩ := h
        rw [AllP.app] at hv
        exact T.cond (b := true) (decideB_val hc hv.1) (iha y k s _ _ _ ha hv.2)
      · simp at h
    · rename_i p hc
      split at h
      · rename_i e1 s1 q hb
        simp only [Option.some.injEq, Prod.mk.injEq] at h
        obtain ⟨rfl, rfl, rfl⟩ := h
        rw [AllP.app] at hv
        exact T.cond (b := false) (decideB_val hc hv.1) (ihb y k s _ _ _ hb hv.2)
      · simp at h
    · simp at h
  | block i c ih =>
    intro y k s e s' vc h hv
    simp only [run] at h
    split at h
    · rename_i s1 p hc
      simp only [Option.some.injEq, Prod.mk.injEq] at h
      obtain ⟨rfl, rfl, rfl⟩ := h
      exact T.block (ih y i s _ _ _ hc hv)
    · rename_i s1 p hc
      simp only [Option.some.injEq, Prod.mk.injEq] at h
      obtain ⟨rfl, rfl, rfl⟩ := h
      exact T.block (ih y i s _ _ _ hc hv)
    · rename_i j s1 p hc
      split at h
      · rename_i hj
        simp only [Option.some.injEq, Prod.mk.injEq] at h
        obtain ⟨rfl, rfl, rfl⟩ := h
        have := T.block (i := i) (ih y i s _ _ _ hc hv)
        simp only [AExit.outOf, hj] at this
        exact this
      · rename_i hj
        simp only [Option.some.injEq, Prod.mk.injEq] at h
        obtain ⟨rfl, rfl, rfl⟩ := h
        have := T.block (i := i) (ih y i s _ _ _ hc hv)
        simp only [AExit.outOf, hj] at this
        exact this
    · simp at h
  | loop c ih =>
    intro y k s e s' vc h hv
    simp only [run] at h
    split at h
    · rename_i l hl
      split at h
      · rename_i q hw
        simp only [Option.some.injEq, Prod.mk.injEq] at h
        obtain ⟨rfl, rfl, rfl⟩ := h
        rw [AllP.app] at hv
        exact T.pre (Weak.of_wk hw hv.1) hv.2.1
      · simp at h
    · split at h
      · obtain ⟨d, u⟩ := rounds_sound (fun y s e s' vc h hv => ih y k s e s' vc h hv) _ _ _ _ _ h hv
        exact u.loop
      · simp at h
  | rangeFunc f params assign body ih1 ih2 => intro y k s e s' vc h hv; simp [run] at h
  | scope c ih => intro y k s e s' vc h hv; simp [run] at h
  | goto l => intro y k s e s' vc h hv; simp [run] at h
  | refuse why => intro y k s e s' vc h hv; simp [run] at h

end Go.Own
