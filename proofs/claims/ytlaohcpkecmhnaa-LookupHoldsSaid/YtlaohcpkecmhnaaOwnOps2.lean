/-
Operations that make a value out of values, continued; the oracle (what a walk is told beforehand).
-/
import Derived.Test.YtlaohcpkecmhnaaOwnOps1

set_option linter.all false

namespace Go.Own
open Go (Value IntKind BinOp UnOp TypeId)

variable {P : Program}

def lk {α : Type} : List (Nat × α) → Nat → Option α
  | [], _ => none
  | (k, v) :: r, n => match Nat.beq k n with
    | true => some v
    | false => lk r n

/-- What a call comes to: which of the function's own blocks are handed in to be written; the result; these blocks (and new ones) behind the call. -/
structure CallO where
  hin : List Nat := []
  res : V
  hout : List (Nat × Blk) := []
  pure : Bool := false

/-- What a walk is told: elements that are read (by the temporary that takes them), tests (by the temporary that is tested), calls (by the temporary of the result). -/
structure Orc where
  val : List (Nat × D) := []
  br : List (Nat × Bool) := []
  call : List (Nat × CallO) := []
  ids : List (Nat × Nat) := []
  set : List (Nat × D) := []
  fit : List Nat := []
  give : List Nat := []

def Orc.hint (o : Orc) : Option Nat → Option D
  | none => none
  | some d => lk o.val d

/-- All of these hold. -/
def AllP : List Prop → Prop
  | [] => True
  | p :: r => p ∧ AllP r

theorem AllP.app {xs ys : List Prop} : AllP (xs ++ ys) ↔ AllP xs ∧ AllP ys := by
  induction xs with
  | nil => simp [AllP]
  | cons x xs ih => simp [AllP, ih, and_assoc]

def optP : Option Prop → List Prop
  | none => []
  | some p => [p]

theorem okP_of {c : Option Prop} (h : AllP (optP c)) : okP c := by
  cases c with
  | none => trivial
  | some p => exact h.1

/-! ### Tests -/
def litB : V → Option Bool
  | .d (.bool true) => some true
  | .d (.bool false) => some false
  | _ => none

def decideB (o : Orc) (x : Operand) (v : V) : Option (Bool × List Prop) :=
  match (match x with | .tmp k => lk o.br k | _ => none) with
  | some b => some (b, [v = .d (.bool b)])
  | none => match litB v with
    | some b => some (b, [])
    | none => none

theorem decideB_val {o : Orc} {x : Operand} {v : V} {b : Bool} {c : List Prop} (h : decideB o x v = some (b, c)) (hc : AllP c) : v = .d (.bool b) := by
  unfold decideB at h
  split at h
  · simp only [Option.some.injEq, Prod.mk.injEq] at h
    obtain ⟨rfl, rfl⟩ := h
    exact hc.1
  · split at h
    · rename_i b' hb
      simp only [Option.some.injEq, Prod.mk.injEq] at h
      obtain ⟨rfl, rfl⟩ := h
      unfold litB at hb
      split at hb <;> simp at hb <;> subst hb <;> rfl
    · simp at h

/-! ### Two operands -/
def aBin (P : Program) (op : BinOp) (t : TypeId) (x y : V) : Option (V × List Prop) :=
  match x, y with
  | .d (.int k a), .d (.int k' b) => match isShift op with
    | true => match shiftInt op k a b with
      | some (d, c) => some (.d d, optP c)
      | none => none
    | false => match kindEq k k' with
      | true => match binInt op k a b with
        | some (d, c) => some (.d d, optP c)
        | none => none
      | false => none
  | .d (.str a), .d (.str b) => match strOp op a b with
    | some (d, c) => some (.d d, optP c)
    | none => none
  | .d (.bool a), .d (.bool b) => match P.underlying t, op with
    | some .bool, .eql => some (.d (.bool (a == b)), [])
    | some .bool, .neq => some (.d (.bool (a != b)), [])
    | _, _ => none
  | .d (.agg xs), .d (.agg ys) => match isRow P t with
    | false => none
    | true => match P.eqGuardType P.depth t with
      | true => none
      | false => match eqTy P 20 t xs ys with
        | none => none
        | some b => match op with
          | .eql => some (.d (.bool b), [])
          | .neq => some (.d (.bool (!b)), [])
          | _ => none
  | _, _ => none

/-- A slice against nil. -/
def aNilCmp (P : Program) (op : BinOp) (t : TypeId) (x : V) : Option (V × List Prop) :=
  match P.underlying t with
  | some (.slice _) => match x, op with
    | .nilx b, .eql => some (.d (.bool b), [])
    | .nilx b, .neq => some (.d (.bool (!b)), [])
    | .d (.sl _ es), .eql => some (.d (.bool false), [es ≠ []])
    | .d (.sl _ es), .neq => some (.d (.bool true), [es ≠ []])
    | _, _ => none
  | _ => none

theorem run_equalIn_nilslice {w : World} (d : Nat) {t e : TypeId} (h : P.underlying t = some (.slice e)) (a : Option Addr) (l c : Nat) : (Op.equalIn (d + 1) t (.slice a l c) (.slice none 0 0)).run P w = .ok a.isNone w := by
  cases a <;> simp [Op.equalIn, run_underlying h]

theorem Makes.nilCmp {op : Oper} {b : BinOp} {ty uy : TypeId} {x : Operand} (ho : op.op = .binOp b ty x (.const (.slice none 0 0)) uy) {t : Nat → V} {h : Hp} {r : V} {c : List Prop}
    (ha : aNilCmp P b ty (evalV t x) = some (r, c)) (hc : AllP c) : Makes P op t h r := by
  intro E ρ a w rel
  have hx := rel.eval x
  have hy : a.eval (.const (.slice none 0 0)) = .slice none 0 0 := rfl
  unfold aNilCmp at ha
  split at ha
  case h_2 => simp at ha
  rename_i e hu
  have key : ∀ (ad : Option Addr) (l c : Nat) (bb : Bool), a.eval x = .slice ad l c → ad.isNone = bb → (b = .eql → r = .d (.bool bb)) → (b = .neq → r = .d (.bool (!bb))) → (b = .eql ∨ b = .neq) → ∃ v : Value, (execOp a.eval op).run P w = .ok (.value v) w ∧ VRel w (E.NN ρ h) ρ h r v := by
    intro ad l c bb hv hb h1 h2 h3
    rcases h3 with rfl | rfl
    · refine ⟨.bool bb, ?_, by rw [h1 rfl]; simp only [VRel, DRel]⟩
      unfold execOp
      simp [ho, hv, hy, eqGuard, binOp, Op.equal, Op.maxDepth, run_equalIn_nilslice 9999 hu, hb]
    · refine ⟨.bool (!bb), ?_, by rw [h2 rfl]; simp only [VRel, DRel]⟩
      unfold execOp
      simp [ho, hv, hy, eqGuard, binOp, Op.equal, Op.maxDepth, run_equalIn_nilslice 9999 hu, hb]
  split at ha
  · rename_i bb e1
    simp only [Option.some.injEq, Prod.mk.injEq] at ha
    obtain ⟨rfl, rfl⟩ := ha
    rw [e1] at hx
    simp only [VRel] at hx
    obtain ⟨ad, c, hv, hb⟩ := hx
    exact key ad 0 c bb hv hb (fun _ => rfl) (fun h => by cases h) (.inl rfl)
  · rename_i bb e1
    simp only [Option.some.injEq, Prod.mk.injEq] at ha
    obtain ⟨rfl, rfl⟩ := ha
    rw [e1] at hx
    simp only [VRel] at hx
    obtain ⟨ad, c, hv, hb⟩ := hx
    exact key ad 0 c bb hv hb (fun h => by cases h) (fun _ => rfl) (.inr rfl)
  · rename_i sz es e1
    simp only [Option.some.injEq, Prod.mk.injEq] at ha
    obtain ⟨rfl, rfl⟩ := ha
    rw [e1] at hx
    simp only [VRel, DRel] at hx
    obtain ⟨ad, l, c, hv, _, _, h⟩ := hx
    have hn : ad.isNone = false := by
      rcases h with h | ⟨b, off, vs, rfl, _⟩
      · exact absurd h hc.1
      · rfl
    exact key ad l c false hv hn (fun _ => rfl) (fun h => by cases h) (.inl rfl)
  · rename_i sz es e1
    simp only [Option.some.injEq, Prod.mk.injEq] at ha
    obtain ⟨rfl, rfl⟩ := ha
    rw [e1] at hx
    simp only [VRel, DRel] at hx
    obtain ⟨ad, l, c, hv, _, _, h⟩ := hx
    have hn : ad.isNone = false := by
      rcases h with h | ⟨b, off, vs, rfl, _⟩
      · exact absurd h hc.1
      · rfl
    exact key ad l c false hv hn (fun h => by cases h) (fun _ => rfl) (.inr rfl)
  · simp at ha

/-- The empty slice's word. -/
def isNilOp : Operand → Bool
  | .const (.slice none 0 0) => true
  | _ => false

theorem Makes.bin {op : Oper} {b : BinOp} {ty uy : TypeId} {x y : Operand} (ho : op.op = .binOp b ty x y uy) {t : Nat → V} {h : Hp} {r : V} {c : List Prop}
    (ha : aBin P b ty (evalV t x) (evalV t y) = some (r, c)) (hc : AllP c) : Makes P op t h r := by
  intro E ρ a w rel
  have hx := rel.eval x
  have hy := rel.eval y
  unfold aBin at ha
  split at ha
  · rename_i k i k' j e1 e2
    rw [e1] at hx
    rw [e2] at hy
    have hx := hx.int
    have hy := hy.int
    split at ha
    · split at ha
      · rename_i d c' hs
        simp only [Option.some.injEq, Prod.mk.injEq] at ha
        obtain ⟨rfl, rfl⟩ := ha
        obtain ⟨v, hv, hr⟩ := run_shiftInt (P := P) (k' := k') hs (okP_of hc) ty w (E.NN ρ h) ρ h
        refine ⟨v, ?_, hr⟩
        unfold execOp
        simp only [ho, hx, hy, Sem.run_bind]
        cases b <;> simp [eqGuard, hv]
      · simp at ha
    · split at ha
      · rename_i hk
        have := kindEq_eq hk
        subst this
        split at ha
        · rename_i d c' hs
          simp only [Option.some.injEq, Prod.mk.injEq] at ha
          obtain ⟨rfl, rfl⟩ := ha
          obtain ⟨v, hv, hr⟩ := run_binInt (P := P) hs (okP_of hc) ty w (E.NN ρ h) ρ h
          refine ⟨v, ?_, hr⟩
          unfold execOp
          simp only [ho, hx, hy, Sem.run_bind]
          cases b <;> simp [eqGuard, hv]
        · simp at ha
      · simp at ha
  · rename_i s u e1 e2
    rw [e1] at hx
    rw [e2] at hy
    have hx := hx.str
    have hy := hy.str
    split at ha
    · rename_i d c' hs
      simp only [Option.some.injEq, Prod.mk.injEq] at ha
      obtain ⟨rfl, rfl⟩ := ha
      obtain ⟨v, hv, hr⟩ := run_strOp (P := P) hs (okP_of hc) ty w (E.NN ρ h) ρ h
      refine ⟨v, ?_, hr⟩
      unfold execOp
      simp only [ho, hx, hy, Sem.run_bind]
      cases b <;> simp [eqGuard, hv]
    · simp at ha
  · rename_i p q e1 e2
    rw [e1] at hx
    rw [e2] at hy
    have hx := hx.bool
    have hy := hy.bool
    split at ha
    · rename_i hu
      simp only [Option.some.injEq, Prod.mk.injEq] at ha
      obtain ⟨rfl, rfl⟩ := ha
      refine ⟨.bool (p == q), ?_, by simp only [VRel, DRel]⟩
      unfold execOp
      simp [ho, hx, hy, eqGuard, binOp, Op.equal, Op.maxDepth, run_equalIn_bool w 9999 ty p q hu]
    · rename_i hu
      simp only [Option.some.injEq, Prod.mk.injEq] at ha
      obtain ⟨rfl, rfl⟩ := ha
      refine ⟨.bool (p != q), ?_, by simp only [VRel, DRel]⟩
      unfold execOp
      simp [ho, hx, hy, eqGuard, binOp, Op.equal, Op.maxDepth, run_equalIn_bool w 9999 ty p q hu]
      cases p <;> cases q <;> rfl
    · simp at ha
  · rename_i xs ys e1 e2
    rw [e1] at hx
    rw [e2] at hy
    simp only [VRel, DRel] at hx hy
    obtain ⟨X, hX, hx⟩ := hx
    obtain ⟨Y, hY, hy⟩ := hy
    split at ha
    · simp at ha
    · rename_i hrow
      split at ha
      · simp at ha
      · rename_i hg
        split at ha
        · simp at ha
        · rename_i b' hb
          have lie : ∀ (zs : List D) (Z : Array Value), DRelL w (E.NN ρ h) zs Z.toList → ∀ m, Lie w (E.NN ρ h) (zs.take m) Z 0 := by
            intro zs Z hz m j d hj
            rw [List.getElem?_take] at hj
            split at hj
            · obtain ⟨v, hv, hd⟩ := hz.get j d hj
              exact ⟨v, by simpa using hv, hd⟩
            · simp at hj
          have fits : (Op.equalIn 10000 ty (.agg X) (.agg Y)).run P w = .ok b' w :=
            run_equalIn 20 ty xs ys b' _ _ 10000 (by omega) hb (by unfold Fits; rw [hrow]; exact ⟨X, rfl, fun i _ => lie xs X hx _⟩) (by unfold Fits; rw [hrow]; exact ⟨Y, rfl, fun i _ => lie ys Y hy _⟩)
          split at ha
          · simp only [Option.some.injEq, Prod.mk.injEq] at ha
            obtain ⟨rfl, rfl⟩ := ha
            refine ⟨.bool b', ?_, by simp only [VRel, DRel]⟩
            unfold execOp
            simp [ho, hX, hY, run_eqGuard_agg w .eql ty x y X Y hg, run_eql_struct, fits]
          · simp only [Option.some.injEq, Prod.mk.injEq] at ha
            obtain ⟨rfl, rfl⟩ := ha
            refine ⟨.bool (!b'), ?_, by simp only [VRel, DRel]⟩
            unfold execOp
            simp [ho, hX, hY, run_eqGuard_agg w .neq ty x y X Y hg, run_neq_struct, fits]
          · simp at ha
  · simp at ha

/-! ### One operand -/
def aUn (op : UnOp) (x : V) : Option V :=
  match op, x with
  | .neg, .d (.int k n) => some (.d (.int k (k.wrap (0 - n))))
  | .xor, .d (.int k n) => some (.d (.int k (k.wrap ((BitVec.ofInt k.bits (if k.signed then -1 else k.max) ^^^ BitVec.ofInt k.bits n).toNat))))
  | .not, .d (.bool b) => some (.d (.bool (!b)))
  | _, _ => none

theorem Makes.un {op : Oper} {u : UnOp} {ty : TypeId} {x : Operand} (ho : op.op = .unOp u ty x) {t : Nat → V} {h : Hp} {r : V} (ha : aUn u (evalV t x) = some r) : Makes P op t h r := by
  intro E ρ a w rel
  have hx := rel.eval x
  unfold aUn at ha
  split at ha
  · rename_i k n e
    rw [e] at hx
    simp only [Option.some.injEq] at ha
    subst ha
    exact ⟨_, by unfold execOp; simp only [ho, hx.int, Op.unary, Op.intArith, Sem.run_bind, Sem.run_pure, Result.andThen_ok]; rfl, by simp only [VRel, DRel]⟩
  · rename_i k n e
    rw [e] at hx
    simp only [Option.some.injEq] at ha
    subst ha
    exact ⟨_, by unfold execOp; simp only [ho, hx.int, Op.unary, Op.intBits, Sem.run_bind, Sem.run_pure, Result.andThen_ok]; rfl, by simp only [VRel, DRel]⟩
  · rename_i b e
    rw [e] at hx
    simp only [Option.some.injEq] at ha
    subst ha
    exact ⟨.bool (!b), by unfold execOp; simp only [ho, hx.bool, Op.unary, Sem.run_bind, Sem.run_pure, Result.andThen_ok], by simp only [VRel, DRel]⟩
  · simp at ha

def aConv (P : Program) (src dst : TypeId) (x : V) : Option V :=
  match P.underlying src with
  | none => none
  | some s => match P.underlying dst, x with
    | some (.int k), .d (.int _ n) => some (.d (.int k (k.wrap n)))
    | some .string, .d (.str s) => some (.d (.str s))
    | _, _ => none

theorem Makes.conv {op : Oper} {src dst : TypeId} {x : Operand} (ho : op.op = .convert src dst x) {t : Nat → V} {h : Hp} {r : V} (ha : aConv P src dst (evalV t x) = some r) : Makes P op t h r := by
  intro E ρ a w rel
  have hx := rel.eval x
  unfold aConv at ha
  split at ha
  · simp at ha
  · rename_i s hs
    split at ha
    · rename_i k k' n hd e
      rw [e] at hx
      simp only [Option.some.injEq] at ha
      subst ha
      exact ⟨_, by unfold execOp; simp [ho, hx.int, convert, run_underlying hs, run_underlying hd, Conv.intToInt]; rfl, by simp only [VRel, DRel]⟩
    · rename_i u hd e
      rw [e] at hx
      simp only [Option.some.injEq] at ha
      subst ha
      exact ⟨_, by unfold execOp; simp [ho, hx.str, convert, run_underlying hs, run_underlying hd]; rfl, by simp only [VRel, DRel]⟩
    · simp at ha

theorem Makes.move {op : Oper} {x : Operand} (ho : op.op = .move x ∨ op.op = .assign x) {t : Nat → V} {h : Hp} : Makes P op t h (evalV t x) := by
  intro E ρ a w rel
  refine ⟨a.eval x, ?_, rel.eval x⟩
  unfold execOp
  rcases ho with ho | ho <;> simp [ho]

def aPick (o : Orc) (c : Operand) (v x y : V) : Option (V × List Prop) :=
  match decideB o c v with
  | some (true, p) => some (x, p)
  | some (false, p) => some (y, p)
  | none => none

theorem Makes.pick {o : Orc} {op : Oper} {c x y : Operand} (ho : op.op = .pick c x y) {t : Nat → V} {h : Hp} {r : V} {p : List Prop}
    (ha : aPick o c (evalV t c) (evalV t x) (evalV t y) = some (r, p)) (hp : AllP p) : Makes P op t h r := by
  intro E ρ a w rel
  have hc := rel.eval c
  unfold aPick at ha
  split at ha
  · rename_i p' hd
    simp only [Option.some.injEq, Prod.mk.injEq] at ha
    obtain ⟨rfl, rfl⟩ := ha
    rw [decideB_val hd hp] at hc
    exact ⟨a.eval x, by unfold execOp; simp [ho, hc.bool, asBool], rel.eval x⟩
  · rename_i p' hd
    simp only [Option.some.injEq, Prod.mk.injEq] at ha
    obtain ⟨rfl, rfl⟩ := ha
    rw [decideB_val hd hp] at hc
    exact ⟨a.eval y, by unfold execOp; simp [ho, hc.bool, asBool], rel.eval y⟩
  · simp at ha

def aExtract (x : V) (i : Nat) : Option V :=
  match x with
  | .tup vs => vs[i]?
  | _ => none

theorem Makes.extract {op : Oper} {x : Operand} {i : Nat} (ho : op.op = .extract x i) {t : Nat → V} {h : Hp} {r : V} (ha : aExtract (evalV t x) i = some r) : Makes P op t h r := by
  intro E ρ a w rel
  have hx := rel.eval x
  unfold aExtract at ha
  split at ha
  · rename_i vs e
    rw [e] at hx
    simp only [VRel] at hx
    obtain ⟨arr, hv, hl⟩ := hx
    obtain ⟨v, hv', hr⟩ := hl.get i r ha
    refine ⟨v, ?_, hr⟩
    unfold execOp
    simp only [ho, hv, Instr.extract]
    have : arr[i]? = some v := by simpa using hv'
    simp [this]
  · simp at ha

def aNilCheck (h : Hp) (x : V) : Option V :=
  match x with
  | .ptr id j c => match live (h id) with
    | true => some (.ptr id j c)
    | false => none
  | .d (.ptr cs) => some (.d (.ptr cs))
  | .d (.fn (.func f) first caps) => some (.d (.fn (.func f) first caps))
  | .fn (.func f) first caps => some (.fn (.func f) first caps)
  | _ => none

theorem PtrRel.is {p : Option Pl} {k : Option Blk} {j c : Nat} {v : Value} (h : PtrRel p k j c v) (hl : live k = true) : ∃ b o, v = .pointer (some ⟨b, o, none⟩) := by
  cases k with
  | none => simp [PtrRel] at h
  | some k =>
    cases k with
    | dead => simp [live] at hl
    | map _ _ => simp [PtrRel] at h
    | _ => simp only [PtrRel] at h; obtain ⟨q, _, rfl⟩ := h; exact ⟨_, _, rfl⟩

theorem Makes.nilCheck {op : Oper} {x : Operand} (ho : op.op = .nilCheck x) {t : Nat → V} {h : Hp} {r : V} (ha : aNilCheck h (evalV t x) = some r) : Makes P op t h r := by
  intro E ρ a w rel
  have hx := rel.eval x
  unfold aNilCheck at ha
  split at ha
  · rename_i id j c e
    split at ha
    · rename_i hl
      simp only [Option.some.injEq] at ha
      subst ha
      rw [e] at hx
      have hx' := hx
      simp only [VRel] at hx'
      obtain ⟨b, o, hv⟩ := hx'.is hl
      exact ⟨a.eval x, by unfold execOp; simp [ho, hv], hx⟩
    · simp at ha
  · rename_i cs e
    simp only [Option.some.injEq] at ha
    subst ha
    rw [e] at hx
    have hx' := hx
    simp only [VRel, DRel] at hx'
    obtain ⟨b, o, vs, hv, _⟩ := hx'
    exact ⟨a.eval x, by unfold execOp; simp [ho, hv], hx⟩
  · rename_i f first caps e
    simp only [Option.some.injEq] at ha
    subst ha
    rw [e] at hx
    have hx' := hx
    simp only [VRel, DRel] at hx'
    obtain ⟨fs, cs, hv, _⟩ := hx'
    exact ⟨a.eval x, by unfold execOp; simp [ho, hv], hx⟩
  · rename_i f first caps e
    simp only [Option.some.injEq] at ha
    subst ha
    rw [e] at hx
    have hx' := hx
    simp only [VRel] at hx'
    obtain ⟨fs, cs, hv, _⟩ := hx'
    exact ⟨a.eval x, by unfold execOp; simp [ho, hv], hx⟩
  · simp at ha

theorem VRelL.map_eval {E : Env} {ρ : Ren} {t : Nat → V} {h : Hp} {a : Act} {w : World} (r : RelAt E ρ t h a w) : ∀ xs : List Operand, VRelL w (E.NN ρ h) ρ h (xs.map (evalV t)) (xs.map a.eval)
  | [] => by simp [VRelL]
  | x :: xs => by rw [List.map_cons, List.map_cons, VRelL.cons_iff]; exact ⟨_, _, rfl, r.eval x, VRelL.map_eval r xs⟩

def mkFn (f : Fn) (first caps : List V) : V :=
  match allD first with
  | some fs => match allD caps with
    | some cs => .d (.fn f fs cs)
    | none => .fn f first caps
  | none => .fn f first caps

theorem VRel.mkFn {w : World} {N : Nat → Prop} {ρ : Ren} {h : Hp} {f : Fn} {first caps : List V} {fs cs : Array Value} (h1 : VRelL w N ρ h first fs.toList) (h2 : VRelL w N ρ h caps cs.toList) :
    VRel w N ρ h (mkFn f first caps) (.func f fs cs) := by
  unfold Own.mkFn
  split
  · rename_i a ha
    split
    · rename_i b hb
      simp only [VRel, DRel]
      exact ⟨fs, cs, rfl, h1.allD ha, h2.allD hb⟩
    · simp only [VRel]
      exact ⟨fs, cs, rfl, h1, h2⟩
  · simp only [VRel]
    exact ⟨fs, cs, rfl, h1, h2⟩

theorem Makes.makeFunc {op : Oper} {f : Fn} {first caps : Array Operand} (ho : op.op = .makeFunc f first caps) {t : Nat → V} {h : Hp} :
    Makes P op t h (mkFn f (first.toList.map (evalV t)) (caps.toList.map (evalV t))) := by
  intro E ρ a w rel
  refine ⟨.func f (first.map a.eval) (caps.map a.eval), by unfold execOp; simp [ho, Instr.makeFunc], ?_⟩
  exact VRel.mkFn (by simpa using VRelL.map_eval rel first.toList) (by simpa using VRelL.map_eval rel caps.toList)

def aIface (P : Program) (t : TypeId) (x : V) : Option V :=
  match P.underlying t with
  | none => none
  | some (.interface _) => none
  | some _ => match x with
    | .d y => some (.d (.iface t y))
    | y => some (.iface t y)

theorem Makes.makeIface {op : Oper} {ty : TypeId} {x : Operand} (ho : op.op = .makeInterface ty x) {t : Nat → V} {h : Hp} {r : V} (ha : aIface P ty (evalV t x) = some r) : Makes P op t h r := by
  intro E ρ a w rel
  have hx := rel.eval x
  unfold aIface at ha
  split at ha
  · simp at ha
  · simp at ha
  · rename_i d hni hd
    refine ⟨.iface ty (a.eval x), ?_, ?_⟩
    · unfold execOp
      simp only [ho, Instr.makeInterface, Sem.run_bind, run_underlying hd, Result.andThen_ok]
      cases d <;> first | rfl | exact absurd rfl (hni _)
    · split at ha <;> simp only [Option.some.injEq] at ha <;> subst ha
      · rename_i y e
        rw [e] at hx
        simp only [VRel, DRel] at hx ⊢
        exact ⟨_, rfl, hx⟩
      · simp only [VRel]
        exact ⟨_, rfl, hx⟩

end Go.Own
