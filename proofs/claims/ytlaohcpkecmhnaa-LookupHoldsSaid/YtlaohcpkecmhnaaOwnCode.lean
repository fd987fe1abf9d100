/-
Regions in the text's order; the code of a function along one way; loops; what a function comes to.
-/
import Derived.Test.YtlaohcpkecmhnaaOwnRun

set_option linter.all false

namespace Go.Own
open Go (Value IntKind BinOp UnOp TypeId FuncId)

variable {P : Program}

/-! ### A region in the text's order -/
def guardOf (o : Orc) (all : Array Oper) (op : Oper) (t : List (Nat × V)) : Option (Bool × List Prop) :=
  match op.guard with
  | none => some (true, [])
  | some (j, want) => match (all[j]?).bind (·.dst) with
    | none => none
    | some d => match decideB o (.tmp d) (tmpOf t d) with
      | some (b, p) => some (b == want, p)
      | none => none

def app3 (p q r : List Prop) : List Prop := match p, q with
  | [], [] => r
  | [], q => q ++ r
  | p, [] => p ++ r
  | p, q => p ++ (q ++ r)

theorem app3_eq (p q r : List Prop) : app3 p q r = p ++ (q ++ r) := by
  unfold app3
  split <;> simp

def runOps (P : Program) (o : Orc) (n : Nat) (all : Array Oper) : List Oper → List (Nat × V) → List (Nat × Blk) → Option (List (Nat × V) × List (Nat × Blk) × List Prop)
  | [], t, h => some (t, h, [])
  | op :: rest, t, h => match guardOf o all op t with
    | none => none
    | some (b, p) => match dstOk n op.dst with
      | false => none
      | true => match b with
        | true => match aOp P (o.named h op.dst) t h op with
          | none => none
          | some r => match runOps P o n all rest (putL t op.dst r.x) (r.ups ++ h) with
            | none => none
            | some (t', h', q) => some (t', h', app3 p r.vc q)
        | false => match runOps P o n all rest (putL t op.dst .undef) h with
          | none => none
          | some (t', h', q) => some (t', h', app3 p [] q)

theorem yielded_of {E : Env} {ρ : Ren} {t : Nat → V} {h : Hp} {a : Act} {w : World} (r : RelAt E ρ t h a w) {all : Array Oper} {j d : Nat} {b : Bool} (hd : (all[j]?).bind (·.dst) = some d) (hv : t d = .d (.bool b)) : yielded all a.tmps j = some b := by
  unfold yielded
  rw [hd]
  have := r.tmps d
  rw [hv] at this
  have := this.bool
  simp only [Option.bind_some]
  cases hq : a.tmps[d]? with
  | none => simp [Array.getD_eq_getD_getElem?, hq, Go.undef] at this
  | some v => simp [Array.getD_eq_getD_getElem?, hq] at this; subst this; rfl

theorem guardOf_sound {o : Orc} {all : Array Oper} {op : Oper} {t : List (Nat × V)} {b : Bool} {p : List Prop} (hg : guardOf o all op t = some (b, p)) (hp : AllP p) {E : Env} {ρ : Ren} {h : Hp} {a : Act} {w : World} (r : RelAt E ρ (tmpOf t) h a w) :
    Region.wanted op (yielded all a.tmps) = b := by
  unfold guardOf at hg
  unfold Region.wanted
  split at hg
  · rename_i hn
    simp only [Option.some.injEq, Prod.mk.injEq] at hg
    rw [hn]
    exact hg.1
  · rename_i j want hn
    rw [hn]
    split at hg
    · simp at hg
    · rename_i d hd
      split at hg
      · rename_i b' p' hdec
        simp only [Option.some.injEq, Prod.mk.injEq] at hg
        obtain ⟨rfl, rfl⟩ := hg
        have := decideB_val hdec hp
        simp only [yielded_of r hd this]
        cases b' <;> cases want <;> rfl
      · simp at hg

theorem runOps_sound {o : Orc} {all : Array Oper} {Q : Exit → Act → World → Prop} : ∀ (l : List Oper) (t : List (Nat × V)) (h : List (Nat × Blk)) (t' : List (Nat × V)) (h' : List (Nat × Blk)) (vc : List Prop) (E : Env) (ρ : Ren) (a : Act) (w : World),
    runOps P o E.n all l t h = some (t', h', vc) → AllP vc → RelAt E ρ (tmpOf t) (lk h) a w → (∀ ρ' a' w', RelAt E ρ' (tmpOf t') (lk h') a' w' → Q .normal a' w') → wpList P all Q l a w
  | [], t, h, t', h', vc, E, ρ, a, w, hr, _, rel, hQ => by
    simp only [runOps, Option.some.injEq, Prod.mk.injEq] at hr
    obtain ⟨rfl, rfl, rfl⟩ := hr
    exact hQ ρ a w rel
  | op :: rest, t, h, t', h', vc, E, ρ, a, w, hr, hvc, rel, hQ => by
    simp only [runOps] at hr
    split at hr
    · simp at hr
    rename_i b p hg
    split at hr
    · simp at hr
    rename_i hdst
    unfold wpList
    split at hr
    · split at hr
      · simp at hr
      rename_i res ha
      split at hr
      · simp at hr
      rename_i t2 h2 q hrest
      simp only [Option.some.injEq, Prod.mk.injEq] at hr
      obtain ⟨rfl, rfl, rfl⟩ := hr
      rw [app3_eq, AllP.app, AllP.app] at hvc
      rw [guardOf_sound hg hvc.1 rel]
      simp only [if_true]
      refine .inl (aOp_sound ha hvc.2.1 E ρ a w rel _ _ ?_)
      intro ρ' v w' rel' hv
      refine runOps_sound rest _ _ t2 h2 q E ρ' _ w' hrest hvc.2.2 ?_ hQ
      rw [putL_eq]
      exact rel'.putD hv hdst
    · split at hr
      · simp at hr
      rename_i t2 h2 q hrest
      simp only [Option.some.injEq, Prod.mk.injEq] at hr
      obtain ⟨rfl, rfl, rfl⟩ := hr
      rw [app3_eq, AllP.app, AllP.app] at hvc
      rw [guardOf_sound hg hvc.1 rel]
      simp only [Bool.false_eq_true, if_false]
      refine runOps_sound rest _ _ t2 h2 q E ρ _ w hrest hvc.2.2 ?_ hQ
      rw [putL_eq]
      exact rel.putD (by simp only [VRel]) hdst

/-! ### Code -/
inductive AExit where
  | normal
  | exit (id : Nat)
  | ret

def ExRel : AExit → Exit → Prop
  | .normal, .normal => True
  | .exit i, .exit j => i = j
  | .ret, .ret => True
  | _, _ => False

/-- From states like 's' the code comes, by this exit, to states like 's''. -/
def T (P : Program) (n : Nat) (c : Code) (s : St) (e : AExit) (s' : St) : Prop :=
  ∀ (E : Env) (ρ : Ren) (a : Act) (w : World), E.n = n ∧ 100000 ≤ E.base → RelAt E ρ (tmpOf s.t) (lk s.h) a w → ∀ Q : Exit → Act → World → Prop,
    (∀ ρ' a' w' e', ExRel e e' → RelAt E ρ' (tmpOf s'.t) (lk s'.h) a' w' → Q e' a' w') → c.wp P Q a w

/-- A state may be looked at as another one. -/
def Weak (s s1 : St) : Prop := ∀ (E : Env) (ρ : Ren) (a : Act) (w : World), 100000 ≤ E.base → RelAt E ρ (tmpOf s.t) (lk s.h) a w → ∃ ρ', RelAt E ρ' (tmpOf s1.t) (lk s1.h) a w

theorem Weak.refl (s : St) : Weak s s := fun _ ρ _ _ _ r => ⟨ρ, r⟩

theorem Weak.trans {a b c : St} (h1 : Weak a b) (h2 : Weak b c) : Weak a c := fun E ρ x w hb r => by
  obtain ⟨ρ', r'⟩ := h1 E ρ x w hb r
  exact h2 E ρ' x w hb r'

theorem T.pre {n : Nat} {c : Code} {s s1 s' : St} {e : AExit} (h : Weak s s1) (t : T P n c s1 e s') : T P n c s e s' := by
  intro E ρ a w hn r Q hQ
  obtain ⟨ρ', r'⟩ := h E ρ a w hn.2 r
  exact t E ρ' a w hn r' Q hQ

theorem T.post {n : Nat} {c : Code} {s s1 s' : St} {e : AExit} (t : T P n c s e s1) (h : Weak s1 s') : T P n c s e s' := by
  intro E ρ a w hn r Q hQ
  refine t E ρ a w hn r Q ?_
  intro ρ' a' w' e' he r'
  obtain ⟨ρ2, r2⟩ := h E ρ' a' w' hn.2 r'
  exact hQ ρ2 a' w' e' he r2

theorem T.skip {n : Nat} {s : St} : T P n .skip s .normal s := fun _ ρ a w _ r _ hQ => wp_skip (hQ ρ a w .normal trivial r)
theorem T.exit {n i : Nat} {s : St} : T P n (.exit i) s (.exit i) s := fun _ ρ a w _ r _ hQ => wp_exit (hQ ρ a w (.exit i) rfl r)
theorem T.ret {n : Nat} {s : St} : T P n .ret s .ret s := fun _ ρ a w _ r _ hQ => wp_ret (hQ ρ a w .ret trivial r)
theorem T.label {n l : Nat} {s : St} : T P n (.label l) s .normal s := fun _ ρ a w _ r _ hQ => wp_label (hQ ρ a w .normal trivial r)

theorem T.seq {n : Nat} {x y : Code} {s s1 s2 : St} {e : AExit} (h1 : T P n x s .normal s1) (h2 : T P n y s1 e s2) : T P n (.seq x y) s e s2 := by
  intro E ρ a w hn r Q hQ
  refine wp_seq (h1 E ρ a w hn r _ ?_)
  intro ρ' a' w' e' he r'
  cases e' <;> simp only [ExRel] at he
  exact h2 E ρ' a' w' hn r' Q hQ

theorem T.seqX {n : Nat} {x y : Code} {s s1 : St} {e : AExit} (h1 : T P n x s e s1) (he : e ≠ .normal) : T P n (.seq x y) s e s1 := by
  intro E ρ a w hn r Q hQ
  refine wp_seq (h1 E ρ a w hn r _ ?_)
  intro ρ' a' w' e' hx r'
  have := hQ ρ' a' w' e' hx r'
  cases e' <;> first | exact this | (cases e <;> simp [ExRel] at hx he)

theorem T.cond {n : Nat} {c : Operand} {x y : Code} {s s1 : St} {e : AExit} {b : Bool} (hc : evalV (tmpOf s.t) c = .d (.bool b)) (h : T P n (match b with | true => x | false => y) s e s1) : T P n (.cond c x y) s e s1 := by
  intro E ρ a w hn r Q hQ
  have hv := r.eval c
  rw [hc] at hv
  refine wp_cond hv.bool ?_
  have := h E ρ a w hn r Q hQ
  cases b
  · exact this
  · exact this

def AExit.outOf (i : Nat) : AExit → AExit
  | .exit j => match Nat.beq j i with
    | true => .normal
    | false => .exit j
  | .normal => .normal
  | .ret => .ret

theorem T.block {n i : Nat} {c : Code} {s s1 : St} {e : AExit} (h : T P n c s e s1) : T P n (.block i c) s (e.outOf i) s1 := by
  intro E ρ a w hn r Q hQ
  refine wp_block (h E ρ a w hn r _ ?_)
  intro ρ' a' w' e' he r'
  cases e with
  | normal => cases e' <;> simp only [ExRel] at he; exact hQ ρ' a' w' .normal trivial r'
  | ret => cases e' <;> simp only [ExRel] at he; exact hQ ρ' a' w' .ret trivial r'
  | exit j =>
    cases e' <;> simp only [ExRel] at he
    subst he
    simp only [Exit.inBlock]
    simp only [AExit.outOf] at hQ
    cases hb : Nat.beq j i with
    | true =>
      rw [hb] at hQ
      have := beq_eq hb
      rw [if_pos this]
      exact hQ ρ' a' w' .normal trivial r'
    | false =>
      rw [hb] at hQ
      have : j ≠ i := fun e => by subst e; simp at hb
      rw [if_neg this]
      exact hQ ρ' a' w' (.exit j) rfl r'

theorem T.region {n id : Nat} {ops : Array Oper} {o : Orc} {s : St} {t' : List (Nat × V)} {h' : List (Nat × Blk)} {vc : List Prop} (hr : runOps P o n ops ops.toList s.t s.h = some (t', h', vc)) (hvc : AllP vc) : T P n (.region id ops false) s .normal ⟨t', h'⟩ := by
  intro E ρ a w hn r Q hQ
  obtain ⟨rfl, _⟩ := hn
  exact wp_region_list (runOps_sound _ _ _ _ _ _ E ρ a w hr hvc r (fun ρ' a' w' r' => hQ ρ' a' w' .normal trivial r'))

/-! ### Loops -/
theorem wp_loop_ghost {c : Code} {Q : Exit → Act → World → Prop} {a : Act} {w : World} (R : Nat → Act → World → Prop) (d0 : Nat) (h0 : R d0 a w)
    (round : ∀ d a w, R d a w → c.wp P (Exit.then (fun a' w' => ∃ d', d' < d ∧ R d' a' w') Q) a w) : (Code.loop c).wp P Q a w := by
  classical
  have least : ∀ a w, (∃ d, R d a w) → ∃ d, R d a w ∧ ∀ d', R d' a w → d ≤ d' := by
    intro a w ⟨d, hd⟩
    induction d using Nat.strongRecOn with
    | _ d ih =>
      by_cases h : ∃ d', d' < d ∧ R d' a w
      · obtain ⟨d', hlt, hd'⟩ := h
        exact ih d' hlt hd'
      · exact ⟨d, hd, fun d' hd' => Nat.le_of_not_lt (fun hlt => h ⟨d', hlt, hd'⟩)⟩
  let μ : Act → World → Nat := fun a w => if h : ∃ d, R d a w then (least a w h).choose else 0
  have hμ : ∀ a w (h : ∃ d, R d a w), R (μ a w) a w ∧ ∀ d', R d' a w → μ a w ≤ d' := by
    intro a w h
    have := (least a w h).choose_spec
    simp only [μ, dif_pos h]
    exact this
  refine wp_loop (fun a w => ∃ d, R d a w) μ ⟨d0, h0⟩ ?_
  intro a w hI
  obtain ⟨hR, _⟩ := hμ a w hI
  refine wp_mono (round _ a w hR) ?_
  intro e a' w' hq
  cases e <;> first | exact hq | skip
  obtain ⟨d', hlt, hd'⟩ := hq
  exact ⟨⟨d', hd'⟩, Nat.lt_of_le_of_lt ((hμ a' w' ⟨d', hd'⟩).2 d' hd') hlt⟩

/-- A loop: a family of states; each round leads on to one that is nearer to the end, or out. -/
theorem T.loop {n : Nat} {c : Code} {e : AExit} {s' : St} (I : Nat → St → Prop)
    (round : ∀ d s, I d s → (∃ d' s1, d' < d ∧ I d' s1 ∧ T P n c s .normal s1) ∨ (e ≠ .normal ∧ T P n c s e s')) {d : Nat} {s : St} (h : I d s) : T P n (.loop c) s e s' := by
  intro E ρ a w hn r Q hQ
  refine wp_loop_ghost (fun d a w => ∃ s ρ, I d s ∧ RelAt E ρ (tmpOf s.t) (lk s.h) a w) d ⟨s, ρ, h, r⟩ ?_
  rintro d a w ⟨s, ρ, hI, r⟩
  rcases round d s hI with ⟨d', s1, hlt, hI', ht⟩ | ⟨hne, ht⟩
  · refine ht E ρ a w hn r _ ?_
    intro ρ' a' w' e' he r'
    cases e' <;> simp only [ExRel] at he
    exact ⟨d', hlt, s1, ρ', hI', r'⟩
  · refine ht E ρ a w hn r _ ?_
    intro ρ' a' w' e' he r'
    have := hQ ρ' a' w' e' he r'
    cases e' <;> first | exact this | (cases e <;> simp [ExRel] at he hne)

/-- A loop whose rounds are counted. -/
theorem T.loopN {n : Nat} {c : Code} {e : AExit} (he : e ≠ .normal) {s' : St} (st : Nat → St) (m : Nat) (round : ∀ i, i < m → T P n c (st i) .normal (st (i + 1))) (last : T P n c (st m) e s') : T P n (.loop c) (st 0) e s' := by
  refine T.loop (fun d s => ∃ i, i + d = m ∧ s = st i) ?_ (d := m) ⟨0, by omega, rfl⟩
  rintro d s ⟨i, hi, rfl⟩
  by_cases h : i < m
  · exact .inl ⟨d - 1, st (i + 1), by omega, ⟨i + 1, by omega, rfl⟩, round i h⟩
  · have : i = m := by omega
    subst this
    exact .inr ⟨he, last⟩

end Go.Own
