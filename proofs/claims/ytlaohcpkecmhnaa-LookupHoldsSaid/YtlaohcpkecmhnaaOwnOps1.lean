/-
Operations that make a value out of values: what they come to on the function's own values.
-/
import Derived.Test.YtlaohcpkecmhnaaOwnS
import Derived.Laws.StructEq

set_option linter.all false

namespace Go.Own
open Go (Value IntKind BinOp UnOp TypeId)

variable {P : Program}

/-! ### Operands -/
def cellV : Value → V
  | .bool b => .d (.bool b)
  | .int k n => .d (.int k n)
  | .string s => .d (.str s)
  | .pointer none => .d .nilp
  | .slice none 0 0 => .nils
  | .map none => .d .nilmap
  | .nilFunc => .d .nilfn
  | .nilIface => .d .nilif
  | _ => .undef

def constV : Value → V
  | .agg cs => mkAgg (cs.toList.map cellV)
  | v => cellV v

def evalV (t : Nat → V) : Operand → V
  | .tmp k => t k
  | .const v => constV v
  | .global _ => .undef
  | .func f => .d (.fn (.func f) [] [])

theorem cellV_rel (w : World) (N : Nat → Prop) (ρ : Ren) (h : Hp) (v : Value) : VRel w N ρ h (cellV v) v := by
  unfold cellV
  split <;> simp only [VRel, DRel]
  exact ⟨none, rfl⟩

theorem cellsV_rel (w : World) (N : Nat → Prop) (ρ : Ren) (h : Hp) : ∀ vs : List Value, VRelL w N ρ h (vs.map cellV) vs
  | [] => by simp [VRelL]
  | v :: r => by rw [List.map_cons, VRelL.cons_iff]; exact ⟨v, r, rfl, cellV_rel w N ρ h v, cellsV_rel w N ρ h r⟩

theorem constV_rel (w : World) (N : Nat → Prop) (ρ : Ren) (h : Hp) (v : Value) : VRel w N ρ h (constV v) v := by
  unfold constV
  split
  · exact VRel.mkAgg (cellsV_rel w N ρ h _)
  · exact cellV_rel w N ρ h v

theorem RelAt.eval {E : Env} {ρ : Ren} {t : Nat → V} {h : Hp} {a : Act} {w : World} (r : RelAt E ρ t h a w) (x : Operand) : VRel w (E.NN ρ h) ρ h (evalV t x) (a.eval x) := by
  cases x with
  | tmp k => exact r.tmps k
  | const v => exact constV_rel _ _ _ _ v
  | global g => simp only [evalV, VRel]
  | func f => simp only [evalV, VRel, DRel, Act.eval]; exact ⟨#[], #[], rfl, by simp [DRelL], by simp [DRelL]⟩

/-! ### What an operation comes to -/
/-- The operation makes a value and leaves the world alone. -/
def Makes (P : Program) (op : Oper) (t : Nat → V) (h : Hp) (x : V) : Prop :=
  ∀ (E : Env) (ρ : Ren) (a : Act) (w : World), RelAt E ρ t h a w → ∃ v, (execOp a.eval op).run P w = .ok (.value v) w ∧ VRel w (E.NN ρ h) ρ h x v

theorem VRel.int {w : World} {N : Nat → Prop} {ρ : Ren} {h : Hp} {k : IntKind} {n : Int} {v : Value} (r : VRel w N ρ h (.d (.int k n)) v) : v = .int k n := by simpa only [VRel, DRel] using r
theorem VRel.bool {w : World} {N : Nat → Prop} {ρ : Ren} {h : Hp} {b : Bool} {v : Value} (r : VRel w N ρ h (.d (.bool b)) v) : v = .bool b := by simpa only [VRel, DRel] using r
theorem VRel.str {w : World} {N : Nat → Prop} {ρ : Ren} {h : Hp} {s : ByteArray} {v : Value} (r : VRel w N ρ h (.d (.str s)) v) : v = .string s := by simpa only [VRel, DRel] using r

/-! ### Arithmetic -/
def binInt (op : BinOp) (k : IntKind) (x y : Int) : Option (D × Option Prop) :=
  match op with
  | .add => some (.int k (k.wrap (x + y)), none)
  | .sub => some (.int k (k.wrap (x - y)), none)
  | .mul => some (.int k (k.wrap (x * y)), none)
  | .quo => some (.int k (k.wrap (x.tdiv y)), some (y ≠ 0))
  | .rem => some (.int k (x.tmod y), some (y ≠ 0))
  | .and => some (.int k (k.wrap ((BitVec.ofInt k.bits x &&& BitVec.ofInt k.bits y).toNat)), none)
  | .or => some (.int k (k.wrap ((BitVec.ofInt k.bits x ||| BitVec.ofInt k.bits y).toNat)), none)
  | .xor => some (.int k (k.wrap ((BitVec.ofInt k.bits x ^^^ BitVec.ofInt k.bits y).toNat)), none)
  | .andNot => some (.int k (k.wrap ((BitVec.ofInt k.bits x &&& ~~~ BitVec.ofInt k.bits y).toNat)), none)
  | .eql => some (.bool (x == y), none)
  | .neq => some (.bool (x != y), none)
  | .lss => some (.bool (x < y), none)
  | .leq => some (.bool (x ≤ y), none)
  | .gtr => some (.bool (x > y), none)
  | .geq => some (.bool (x ≥ y), none)
  | _ => none

def shiftInt (op : BinOp) (k : IntKind) (x y : Int) : Option (D × Option Prop) :=
  match op with
  | .shl => some (.int k (k.wrap (x * 2 ^ (min y.toNat k.bits))), some (0 ≤ y))
  | .shr => some (.int k (x.fdiv (2 ^ (min y.toNat k.bits))), some (0 ≤ y))
  | _ => none

def isShift : BinOp → Bool
  | .shl | .shr => true
  | _ => false

def kindEq : IntKind → IntKind → Bool
  | .i8, .i8 | .i16, .i16 | .i32, .i32 | .i64, .i64 | .u8, .u8 | .u16, .u16 | .u32, .u32 | .u64, .u64 => true
  | _, _ => false

theorem kindEq_eq {a b : IntKind} (h : kindEq a b = true) : a = b := by cases a <;> cases b <;> first | rfl | (simp [kindEq] at h)

def strOp (op : BinOp) (x y : ByteArray) : Option (D × Option Prop) :=
  match op with
  | .add => some (.str (x ++ y), some (((x.size + y.size : Nat) : Int) ≤ IntKind.i64.max))
  | .eql => some (.bool (x.toList == y.toList), none)
  | .neq => some (.bool (!(x.toList == y.toList)), none)
  | _ => none

def okP : Option Prop → Prop
  | none => True
  | some p => p

theorem run_binInt {op : BinOp} {k : IntKind} {x y : Int} {d : D} {c : Option Prop} (hb : binInt op k x y = some (d, c)) (hc : okP c) (t : TypeId) (w : World) (N : Nat → Prop) (ρ : Ren) (h : Hp) :
    ∃ v, (binOp op t (.int k x) (.int k y)).run P w = .ok v w ∧ VRel w N ρ h (.d d) v := by
  cases op <;> simp only [binInt, Option.some.injEq, Prod.mk.injEq, reduceCtorEq] at hb <;> obtain ⟨rfl, rfl⟩ := hb <;>
    simp only [okP] at hc <;> simp [binOp, Op.intArith, Op.intDiv, Op.intBits, Op.intCmp, VRel, DRel, hc]

theorem run_shiftInt {op : BinOp} {k k' : IntKind} {x y : Int} {d : D} {c : Option Prop} (hb : shiftInt op k x y = some (d, c)) (hc : okP c) (t : TypeId) (w : World) (N : Nat → Prop) (ρ : Ren) (h : Hp) :
    ∃ v, (binOp op t (.int k x) (.int k' y)).run P w = .ok v w ∧ VRel w N ρ h (.d d) v := by
  cases op <;> simp only [shiftInt, Option.some.injEq, Prod.mk.injEq, reduceCtorEq] at hb <;> obtain ⟨rfl, rfl⟩ := hb <;>
    simp only [okP] at hc <;> (have h2 : ¬ y < 0 := by omega) <;> simp [binOp, Op.shift, VRel, DRel, h2]

theorem run_strOp {op : BinOp} {x y : ByteArray} {d : D} {c : Option Prop} (hb : strOp op x y = some (d, c)) (hc : okP c) (t : TypeId) (w : World) (N : Nat → Prop) (ρ : Ren) (h : Hp) :
    ∃ v, (binOp op t (.string x) (.string y)).run P w = .ok v w ∧ VRel w N ρ h (.d d) v := by
  cases op <;> simp only [strOp, Option.some.injEq, Prod.mk.injEq, reduceCtorEq] at hb <;> obtain ⟨rfl, rfl⟩ := hb <;>
    simp only [okP] at hc <;> simp [binOp, Op.stringOp, VRel, DRel]
  have : IntKind.i64.max = 9223372036854775807 := rfl
  rw [this] at hc
  omega

/-! ### Equality of data that hold no reference -/
/-- Equality by the type: ints, bools, strings; arrays and structs of them. The two lists: the cells from here on. -/
def eqArr (f : List D → List D → Option Bool) (m : Nat) : Nat → List D → List D → Option Bool
  | 0, _, _ => some true
  | len + 1, xs, ys => match f xs ys with
    | some b => match eqArr f m len (xs.drop m) (ys.drop m) with
      | some c => some (b && c)
      | none => none
    | none => none

def eqFld (f : TypeId → List D → List D → Option Bool) : List Field → List D → List D → Option Bool
  | [], _, _ => some true
  | g :: r, xs, ys => match (g.name == "_") with
    | true => eqFld f r xs ys
    | false => match f g.type (xs.drop g.offset) (ys.drop g.offset) with
      | some b => match eqFld f r xs ys with
        | some c => some (b && c)
        | none => none
      | none => none

def eqTy (P : Program) : Nat → TypeId → List D → List D → Option Bool
  | 0, _, _, _ => none
  | n + 1, t, xs, ys =>
    match P.underlying t with
    | some .bool => match xs, ys with
      | .bool a :: _, .bool b :: _ => some (a == b)
      | _, _ => none
    | some (.int _) => match xs, ys with
      | .int k a :: _, .int k' b :: _ => match kindEq k k' with
        | true => some (a == b)
        | false => none
      | _, _ => none
    | some .string => match xs, ys with
      | .str a :: _, .str b :: _ => some (a == b)
      | _, _ => none
    | some (.array len e) => match P.info? e, P.info? t with
      | some i, some it => match Nat.beq (len * i.size) it.size with
        | true => eqArr (eqTy P n e) i.size len (xs.take it.size) (ys.take it.size)
        | false => none
      | _, _ => none
    | some (.struct fs) => match P.stoodInHeld t, P.info? t with
      | false, some it => eqFld (eqTy P n) fs.toList (xs.take it.size) (ys.take it.size)
      | _, _ => none
    | _ => none

def isRow (P : Program) (t : TypeId) : Bool := match P.underlying t with
  | some (.struct _) => true
  | some (.array _ _) => true
  | _ => false

theorem run_isAgg (w : World) {t : TypeId} {d : TypeDesc} (h : P.underlying t = some d) : (isAgg t).run P w = .ok (isRow P t) w := by
  unfold isAgg isRow
  rw [Sem.run_bind, run_underlying h, h]
  cases d <;> rfl

theorem info_of_underlying {t : TypeId} {d : TypeDesc} (h : P.underlying t = some d) : ∃ i, P.info? t = some i := by
  unfold Program.underlying at h
  cases hi : P.info? t with
  | none => simp [hi] at h
  | some i => exact ⟨i, rfl⟩

/-- From cell 'off' of these cells on the data lie. -/
def Lie (w : World) (N : Nat → Prop) (xs : List D) (X : Array Value) (off : Nat) : Prop := ∀ j d, xs[j]? = some d → ∃ v, X[off + j]? = some v ∧ DRel w N d v

/-- A value of a type, against the cells of data from here on. -/
def Fits (P : Program) (w : World) (N : Nat → Prop) (t : TypeId) (xs : List D) (x : Value) : Prop :=
  match isRow P t with
  | true => ∃ X, x = .agg X ∧ ∀ i, P.info? t = some i → Lie w N (xs.take i.size) X 0
  | false => ∀ d, xs[0]? = some d → DRel w N d x

theorem part_fits {w : World} {N : Nat → Prop} {t : TypeId} {desc : TypeDesc} (ht : P.underlying t = some desc) {xs : List D} {X : Array Value} {off : Nat} (hl : Lie w N xs X off) (hne : isRow P t = false → xs ≠ []) :
    ∃ x, (part t X off).run P w = .ok x w ∧ Fits P w N t xs x := by
  obtain ⟨i, hi⟩ := info_of_underlying ht
  unfold part Fits
  rw [Sem.run_bind, run_isAgg w ht]
  cases hr : isRow P t with
  | true =>
    refine ⟨.agg (X.extract off (off + i.size)), by simp [sizeOf, typeInfo, hi], X.extract off (off + i.size), rfl, ?_⟩
    intro i' hi' j d hj
    rw [hi] at hi'
    obtain rfl := Option.some.inj hi'
    rw [List.getElem?_take] at hj
    split at hj
    · obtain ⟨v, hv, hd⟩ := hl j d hj
      refine ⟨v, ?_, hd⟩
      rw [Nat.zero_add, Array.getElem?_extract]
      have hlt : off + j < X.size := (Array.getElem?_eq_some_iff.1 hv).1
      rw [if_pos (by omega)]
      exact hv
    · simp at hj
  | false =>
    cases xs with
    | nil => exact absurd rfl (hne hr)
    | cons d xs =>
      obtain ⟨v, hv, hd⟩ := hl 0 d rfl
      refine ⟨v, by simp at hv; simp [hv], ?_⟩
      intro d' hd'
      simp at hd'
      subst hd'
      exact hd

theorem Lie.drop {w : World} {N : Nat → Prop} {xs : List D} {X : Array Value} {off : Nat} (h : Lie w N xs X off) (m : Nat) : Lie w N (xs.drop m) X (off + m) := by
  intro j d hj
  rw [List.getElem?_drop] at hj
  obtain ⟨v, hv, hd⟩ := h (m + j) d hj
  exact ⟨v, by rw [← hv]; congr 1; omega, hd⟩

theorem forIn_arr {e : TypeId} {m : Nat} {X Y : Array Value} {d : Nat} (f : List D → List D → Option Bool) {w : World} {N : Nat → Prop} {desc : TypeDesc} (he : P.underlying e = some desc)
    (hne : ∀ xs ys b, f xs ys = some b → isRow P e = false → xs ≠ [] ∧ ys ≠ [])
    (hf : ∀ xs ys b x y, f xs ys = some b → Fits P w N e xs x → Fits P w N e ys y → (Op.equalIn d e x y).run P w = .ok b w) :
    ∀ (len k : Nat) (xs ys : List D) (b : Bool), eqArr f m len xs ys = some b → Lie w N xs X (k * m) → Lie w N ys Y (k * m) →
      (forIn (m := Sem) (List.range' k len) ((none, ()) : Option Bool × Unit) fun i _ => do
          let a ← part e X (i * m)
          let c ← part e Y (i * m)
          let r ← Op.equalIn d e a c
          if (!r) = true then pure (ForInStep.done (some false, ())) else pure (ForInStep.yield (none, ()))).run P w
        = .ok ((if b then none else some false, ())) w
  | 0, k, xs, ys, b, h, _, _ => by
    simp only [eqArr, Option.some.injEq] at h
    subst h
    simp
  | len + 1, k, xs, ys, b, h, hx, hy => by
    simp only [eqArr] at h
    split at h
    · rename_i b1 h1
      split at h
      · rename_i c hc
        simp only [Option.some.injEq] at h
        subst h
        obtain ⟨x, hpx, hfx⟩ := part_fits he hx (fun hr => (hne _ _ _ h1 hr).1)
        obtain ⟨y, hpy, hfy⟩ := part_fits he hy (fun hr => (hne _ _ _ h1 hr).2)
        have hx' := hx.drop m
        have hy' := hy.drop m
        have ek : k * m + m = (k + 1) * m := by rw [Nat.add_mul, Nat.one_mul]
        rw [ek] at hx' hy'
        have ih := forIn_arr (X := X) (Y := Y) f he hne hf len (k + 1) _ _ _ hc hx' hy'
        rw [List.range'_succ, List.forIn_cons]
        simp only [Sem.run_bind, Result.andThen_ok, hpx, hpy, hf _ _ _ _ _ h1 hfx hfy]
        cases b1
        · simp
        · simp only [Bool.not_true, Bool.false_eq_true, if_false, Sem.run_pure, Result.andThen_ok, Bool.true_and]
          simpa only [Sem.run_bind] using ih
      · simp at h
    · simp at h

theorem eqTy_ne {n : Nat} {t : TypeId} {xs ys : List D} {b : Bool} (h : eqTy P n t xs ys = some b) (hr : isRow P t = false) : xs ≠ [] ∧ ys ≠ [] := by
  cases n with
  | zero => simp [eqTy] at h
  | succ n =>
    simp only [eqTy] at h
    unfold isRow at hr
    split at h
    case h_4 => rename_i hu; simp [hu] at hr
    case h_5 => rename_i hu; simp [hu] at hr
    case h_6 => simp at h
    all_goals
      split at h
      · exact ⟨by simp, by simp⟩
      · simp at h

theorem fld_run {w : World} {N : Nat → Prop} {X Y : Array Value} {d : Nat} (f : TypeId → List D → List D → Option Bool)
    (hu : ∀ t xs ys b, f t xs ys = some b → ∃ desc, P.underlying t = some desc)
    (hne : ∀ t xs ys b, f t xs ys = some b → isRow P t = false → xs ≠ [] ∧ ys ≠ [])
    (hf : ∀ t xs ys b x y, f t xs ys = some b → Fits P w N t xs x → Fits P w N t ys y → (Op.equalIn d t x y).run P w = .ok b w) :
    ∀ (fs : List Field) (xs ys : List D) (b : Bool), eqFld f fs xs ys = some b → Lie w N xs X 0 → Lie w N ys Y 0 → (Op.eqFields d X Y fs).run P w = .ok b w
  | [], xs, ys, b, h, _, _ => by
    simp only [eqFld, Option.some.injEq] at h
    subst h
    simp [Op.eqFields]
  | g :: r, xs, ys, b, h, hx, hy => by
    simp only [eqFld] at h
    simp only [Op.eqFields]
    cases hg : (g.name == "_") with
    | true =>
      rw [hg] at h
      have : ¬ (g.name ≠ "_") := by simpa using hg
      rw [if_neg this]
      exact fld_run f hu hne hf r xs ys b h hx hy
    | false =>
      rw [hg] at h
      have : g.name ≠ "_" := by simpa using hg
      rw [if_pos this]
      simp only at h
      split at h
      · rename_i b1 h1
        split at h
        · rename_i c hc
          simp only [Option.some.injEq] at h
          subst h
          obtain ⟨desc, hd⟩ := hu _ _ _ _ h1
          have hx' := hx.drop g.offset
          have hy' := hy.drop g.offset
          rw [Nat.zero_add] at hx' hy'
          obtain ⟨x, hpx, hfx⟩ := part_fits hd hx' (fun hr => (hne _ _ _ _ h1 hr).1)
          obtain ⟨y, hpy, hfy⟩ := part_fits hd hy' (fun hr => (hne _ _ _ _ h1 hr).2)
          have ih := fld_run f hu hne hf r xs ys c hc hx hy
          simp only [Sem.run_bind, hpx, Result.andThen_ok, hpy, hf _ _ _ _ _ _ h1 hfx hfy, Sem.run_ite, Sem.run_pure]
          cases b1
          · simp
          · simpa using ih
        · simp at h
      · simp at h

theorem run_equalIn {w : World} {N : Nat → Prop} : ∀ (n : Nat) (t : TypeId) (xs ys : List D) (b : Bool) (x y : Value) (d : Nat), n ≤ d → eqTy P n t xs ys = some b → Fits P w N t xs x → Fits P w N t ys y →
    (Op.equalIn d t x y).run P w = .ok b w
  | 0, _, _, _, _, _, _, _, _, h, _, _ => by simp [eqTy] at h
  | n + 1, t, xs, ys, b, x, y, d, hd, h, hx, hy => by
    obtain ⟨d, rfl⟩ : ∃ k, d = k + 1 := ⟨d - 1, by omega⟩
    have hnd : n ≤ d := by omega
    simp only [eqTy] at h
    split at h
    · rename_i hu
      have hr : isRow P t = false := by simp [isRow, hu]
      simp only [Fits, hr] at hx hy
      split at h
      · rename_i a r c r'
        have hx' := hx _ rfl
        have hy' := hy _ rfl
        simp only [DRel] at hx' hy'
        subst hx' hy'
        simp only [Option.some.injEq] at h
        subst h
        exact run_equalIn_bool w d t _ _ hu
      · simp at h
    · rename_i k hu
      have hr : isRow P t = false := by simp [isRow, hu]
      simp only [Fits, hr] at hx hy
      split at h
      · rename_i k1 a r k2 c r'
        have hx' := hx _ rfl
        have hy' := hy _ rfl
        simp only [DRel] at hx' hy'
        subst hx' hy'
        split at h
        · rename_i hk
          have := kindEq_eq hk
          subst this
          simp only [Option.some.injEq] at h
          subst h
          exact run_equalIn_int w d t _ _ _ _ hu
        · simp at h
      · simp at h
    · rename_i hu
      have hr : isRow P t = false := by simp [isRow, hu]
      simp only [Fits, hr] at hx hy
      split at h
      · rename_i a r c r'
        have hx' := hx _ rfl
        have hy' := hy _ rfl
        simp only [DRel] at hx' hy'
        subst hx' hy'
        simp only [Option.some.injEq] at h
        subst h
        rw [run_equalIn_string w d t _ _ hu, beq_toListBytes]
      · simp at h
    · rename_i len e hu
      have hr : isRow P t = true := by simp [isRow, hu]
      simp only [Fits, hr] at hx hy
      obtain ⟨X, rfl, hx⟩ := hx
      obtain ⟨Y, rfl, hy⟩ := hy
      split at h
      · rename_i i it hi hit
        split at h
        · have hx' := hx _ hit
          have hy' := hy _ hit
          by_cases hlen : len = 0
          · subst hlen
            simp only [eqArr, Option.some.injEq] at h
            subst h
            simp [Op.equalIn, run_underlying hu, sizeOf, typeInfo, hi]
          · have he : ∃ desc, P.underlying e = some desc := by
              obtain ⟨len, rfl⟩ : ∃ k, len = k + 1 := ⟨len - 1, by omega⟩
              simp only [eqArr] at h
              cases n with
              | zero => simp [eqTy] at h
              | succ n =>
                cases hue : P.underlying e with
                | some desc => exact ⟨desc, rfl⟩
                | none => simp [eqTy, hue] at h
            obtain ⟨desc, he⟩ := he
            have hl := forIn_arr (P := P) (w := w) (N := N) (X := X) (Y := Y) (d := d) (m := i.size) (eqTy P n e) he (fun xs ys b h => eqTy_ne h)
              (fun xs ys b x y h hx hy => run_equalIn n e xs ys b x y d hnd h hx hy) len 0 _ _ b h (by simpa using hx') (by simpa using hy')
            have hs : (sizeOf e).run P w = .ok i.size w := by simp [sizeOf, typeInfo, hi]
            simp only [Op.equalIn, Sem.run_bind, run_underlying hu, Result.andThen_ok, hs, Std.Legacy.Range.forIn_eq_forIn_range']
            have hsz : ([:len] : Std.Legacy.Range).size = len := by simp [Std.Legacy.Range.size]
            rw [hsz]
            refine (congrArg (fun r => Result.andThen r _) hl).trans ?_
            cases b <;> rfl
        · simp at h
      · simp at h
    · rename_i fs hu
      have hr : isRow P t = true := by simp [isRow, hu]
      simp only [Fits, hr] at hx hy
      obtain ⟨X, rfl, hx⟩ := hx
      obtain ⟨Y, rfl, hy⟩ := hy
      split at h
      · rename_i it hp hit
        have hf : P.fieldsOf t = fs := by simp [Program.fieldsOf, hu]
        rw [run_equalIn_struct w d t X Y (by rw [hf]; exact hu) hp, hf]
        refine fld_run (eqTy P n) (fun t xs ys b h => ?_) (fun t xs ys b h => eqTy_ne h) (fun t xs ys b x y h hx hy => run_equalIn n t xs ys b x y d hnd h hx hy) fs.toList _ _ b h (hx _ hit) (hy _ hit)
        cases n with
        | zero => simp [eqTy] at h
        | succ n =>
          cases hue : P.underlying t with
          | some desc => exact ⟨desc, rfl⟩
          | none => simp [eqTy, hue] at h
      · simp at h
    · simp at h

end Go.Own
