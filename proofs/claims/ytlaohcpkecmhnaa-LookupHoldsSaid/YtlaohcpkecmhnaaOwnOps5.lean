/-
Builtins that only look (len, min, max); structs and arrays that are built.
-/
import Derived.Test.YtlaohcpkecmhnaaOwnOps4

set_option linter.all false

namespace Go.Own
open Go (Value IntKind BinOp UnOp TypeId)

variable {P : Program}

theorem run_builtin {op : Oper} {b : Builtin} {args : Array Operand} {tys : Array TypeId} (ho : op.op = .call { callee := .builtin b, args := args, argTypes := tys }) (a : Act) (w : World) :
    (execOp a.eval op).run P w = (builtin b tys op.type (args.map fun | .const _ => true | _ => false) (args.map a.eval)).run P w := by
  unfold execOp
  simp only [ho, resolve, Sem.run_bind, Sem.run_pure, Result.andThen_ok, invoke]
  rfl

/-! ### len -/
def aLen (P : Program) (h : Hp) (t : TypeId) (x : V) : Option V :=
  match P.underlying t with
  | some .string => match x with
    | .d (.str s) => some (.d (.int .i64 s.size))
    | _ => none
  | some (.slice _) => match x with
    | .nils => some (.d (.int .i64 0))
    | .d (.sl _ es) => some (.d (.int .i64 es.length))
    | .ref id off len _ => match h id with
      | some (.row _ es) => match len with
        | some n => some (.d (.int .i64 (n : Int)))
        | none => match off with
          | 0 => some (.d (.int .i64 (es.length : Int)))
          | o => some (.d (.int .i64 ((es.length - o : Nat) : Int)))
      | _ => none
    | _ => none
  | some (.array n _) => some (.d (.int .i64 (n : Int)))
  | some (.pointer e) => match P.underlying e with
    | some (.array n _) => some (.d (.int .i64 (n : Int)))
    | _ => none
  | some (.map _ _) => match x with
    | .d .nilmap => some (.d (.int .i64 0))
    | .d (.map ks _) => some (.d (.int .i64 (ks.length : Int)))
    | .mapr id => match h id with
      | some (.map ks _) => some (.d (.int .i64 (ks.length : Int)))
      | _ => none
    | _ => none
  | _ => none

theorem Makes.len {op : Oper} {ty : TypeId} {x : Operand} (ho : op.op = .call { callee := .builtin .len, args := #[x], argTypes := #[ty] }) {t : Nat → V} {h : Hp} {r : V}
    (ha : aLen P h ty (evalV t x) = some r) : Makes P op t h r := by
  intro E ρ a w rel
  have hx := rel.eval x
  have done : ∀ v, (Builtin.len_ #[ty] op.type #[a.eval x]).run P w = .ok v w → (execOp a.eval op).run P w = .ok (.value v) w := by
    intro v hv
    rw [run_builtin ho]
    simp [builtin, hv]
  unfold aLen at ha
  split at ha
  · rename_i hu
    split at ha
    · rename_i s e
      rw [e] at hx
      simp only [Option.some.injEq] at ha
      subst ha
      exact ⟨_, done (goInt s.size) (by simp [Builtin.len_, hx.str, run_underlying hu]), by simp only [VRel, DRel, goInt]⟩
    · simp at ha
  · rename_i e hu
    split at ha
    · rename_i e1
      rw [e1] at hx
      simp only [VRel] at hx
      simp only [Option.some.injEq] at ha
      subst ha
      obtain ⟨ad, hx⟩ := hx
      exact ⟨_, done (goInt 0) (by simp [Builtin.len_, hx, run_underlying hu]), by simp only [VRel, DRel, goInt]⟩
    · rename_i sz es e1
      rw [e1] at hx
      simp only [VRel, DRel] at hx
      obtain ⟨ad, len, cap, hv, rfl, _⟩ := hx
      simp only [Option.some.injEq] at ha
      subst ha
      exact ⟨_, done (goInt es.length) (by simp [Builtin.len_, hv, run_underlying hu]), by simp only [VRel, DRel, goInt]⟩
    · rename_i id off len cap e1
      rw [e1] at hx
      simp only [VRel] at hx
      split at ha
      case h_2 => simp at ha
      rename_i sz es hk
      rw [hk] at hx
      have hv : ∃ ad c, a.eval x = .slice ad (len.getD (es.length - off)) c := by
        simp only [RefRel] at hx
        obtain ⟨_, hx⟩ := hx
        cases hq : ρ id with
        | none => rw [hq] at hx; obtain ⟨⟨ad, hv⟩, hz, _⟩ := hx; exact ⟨ad, 0, by rw [hv, hz]⟩
        | some q => rw [hq] at hx; obtain ⟨ad, c, hv, _⟩ := hx; exact ⟨ad, c, hv⟩
      obtain ⟨ad, c, hv⟩ := hv
      have key : r = .d (.int .i64 ((len.getD (es.length - off) : Nat) : Int)) := by
        split at ha
        · simpa using ha.symm
        · split at ha <;> simpa using ha.symm
      subst key
      exact ⟨_, done (goInt (len.getD (es.length - off) : Nat)) (by simp [Builtin.len_, hv, run_underlying hu]), by simp only [VRel, DRel, goInt]⟩
    · simp at ha
  · rename_i n e hu
    simp only [Option.some.injEq] at ha
    subst ha
    exact ⟨_, done (goInt n) (by simp [Builtin.len_, run_underlying hu]), by simp only [VRel, DRel, goInt]⟩
  · rename_i e hu
    split at ha
    · rename_i n e' hu'
      simp only [Option.some.injEq] at ha
      subst ha
      exact ⟨_, done (goInt n) (by simp [Builtin.len_, run_underlying hu, run_underlying hu']), by simp only [VRel, DRel, goInt]⟩
    · simp at ha
  · rename_i k e hu
    have mp : ∀ (b : Nat) (es : Array MapEntry) (clock : Nat) (ks : List D), a.eval x = .map (some b) → w.heap[b]? = some (.map es clock) → DRelL w (E.NN ρ h) ks (es.toList.map (·.key)) →
        (Builtin.len_ #[ty] op.type #[a.eval x]).run P w = .ok (goInt ks.length) w := by
      intro b es clock ks hv hb hl
      have := hl.length
      simp only [List.length_map, Array.length_toList] at this
      simp [Builtin.len_, hv, run_underlying hu, getObj, Sem.run, hb, this]
    split at ha
    · rename_i e1
      rw [e1] at hx
      simp only [VRel, DRel] at hx
      simp only [Option.some.injEq] at ha
      subst ha
      exact ⟨_, done (goInt 0) (by simp [Builtin.len_, hx, run_underlying hu]), by simp only [VRel, DRel, goInt]⟩
    · rename_i ks vs e1
      rw [e1] at hx
      simp only [VRel, DRel] at hx
      obtain ⟨b, es, clock, hv, _, _, hb, hl, _⟩ := hx
      simp only [Option.some.injEq] at ha
      subst ha
      exact ⟨_, done _ (mp b es clock ks hv hb hl), by simp only [VRel, DRel, goInt]⟩
    · rename_i id e1
      rw [e1] at hx
      simp only [VRel] at hx
      split at ha
      case h_2 => simp at ha
      rename_i ks vs hk
      rw [hk] at hx
      simp only [MapRel] at hx
      obtain ⟨q, hq, hv⟩ := hx
      have hblk := rel.heap id _ hk
      rw [hq] at hblk
      obtain ⟨q', es, clock, hq', _, hb, hl, _⟩ := hblk
      obtain rfl := Option.some.inj hq'
      simp only [Option.some.injEq] at ha
      subst ha
      exact ⟨_, done _ (mp q.b es clock ks hv hb hl), by simp only [VRel, DRel, goInt]⟩
    · simp at ha
  · simp at ha

/-! ### min, max of two ints -/
def aMinMax (max : Bool) (x y : V) : Option V :=
  match x, y with
  | .d (.int k a), .d (.int _ b) => match max with
    | false => some (.d (.int k (if b < a then b else a)))
    | true => some (.d (.int k (if b > a then b else a)))
  | _, _ => none

theorem Makes.minmax {op : Oper} {max : Bool} {tys : Array TypeId} {x y : Operand} (ho : op.op = .call { callee := .builtin (match max with | true => .max | false => .min), args := #[x, y], argTypes := tys }) {t : Nat → V} {h : Hp} {r : V}
    (ha : aMinMax max (evalV t x) (evalV t y) = some r) : Makes P op t h r := by
  intro E ρ a w rel
  have hx := rel.eval x
  have hy := rel.eval y
  unfold aMinMax at ha
  split at ha
  · rename_i k i k' j e1 e2
    rw [e1] at hx
    rw [e2] at hy
    have hx := hx.int
    have hy := hy.int
    cases max with
    | false =>
      simp only [Option.some.injEq] at ha
      subst ha
      refine ⟨.int k (if j < i then j else i), ?_, by simp only [VRel, DRel]⟩
      rw [run_builtin ho]
      simp [builtin, Builtin.min_, Builtin.min2, hx, hy]
    | true =>
      simp only [Option.some.injEq] at ha
      subst ha
      refine ⟨.int k (if j > i then j else i), ?_, by simp only [VRel, DRel]⟩
      rw [run_builtin ho]
      simp [builtin, Builtin.max_, Builtin.max2, hx, hy]
  · simp at ha

/-! ### Structs and arrays that are built -/
def splice {α : Type} (cs : List α) (off : Nat) (vs : List α) : List α := cs.take off ++ vs ++ cs.drop (off + vs.length)

def fillV (place : Nat → Option (Nat × Nat)) : List V → List (Nat × V) → Option (List V)
  | cells, [] => some cells
  | cells, (i, x) :: rest => match place i with
    | none => none
    | some (off, size) => match x.cells with
      | none => none
      | some cs => match Nat.beq cs.length size, Nat.ble (off + size) cells.length with
        | true, true => fillV place (splice cells off cs) rest
        | _, _ => none

theorem foldl_set (vs : List Value) : ∀ (off k : Nat) (X : Array Value), off + k + vs.length ≤ X.size →
    ((vs.zipIdx k).foldl (fun cs (c, j) => cs.setIfInBounds (off + j) c) X).toList = X.toList.take (off + k) ++ vs ++ X.toList.drop (off + k + vs.length) := by
  induction vs with
  | nil => intro off k X h; simp
  | cons v vs ih =>
    intro off k X h
    simp only [List.length_cons] at h
    rw [List.zipIdx_cons, List.foldl_cons, ih off (k + 1) _ (by simp; omega)]
    have hlt : off + k < X.toList.length := by simp; omega
    simp only [Array.toList_setIfInBounds, List.length_cons]
    have e1 : (X.toList.set (off + k) v).take (off + (k + 1)) = X.toList.take (off + k) ++ [v] := by
      rw [← Nat.add_assoc, List.take_set, List.take_succ_eq_append_getElem hlt]
      rw [List.set_append_right _ _ (by simp; omega)]
      congr 1
      have : off + k - (X.toList.take (off + k)).length = 0 := by simp; omega
      rw [this]
      rfl
    have e2 : (X.toList.set (off + k) v).drop (off + (k + 1) + vs.length) = X.toList.drop (off + k + (vs.length + 1)) := by
      rw [List.drop_set_of_lt (by omega)]
      congr 1
      omega
    rw [e1, e2]
    simp

theorem VRelL.splice {w : World} {N : Nat → Prop} {ρ : Ren} {h : Hp} {xs ys : List V} {vs us : List Value} {off : Nat} (r : VRelL w N ρ h xs vs) (r' : VRelL w N ρ h ys us) :
    VRelL w N ρ h (splice xs off ys) (vs.take off ++ us ++ vs.drop (off + us.length)) := by
  unfold Own.splice
  rw [r'.length]
  exact ((r.take off).append r').append (r.drop _)

theorem run_fill {w : World} {N : Nat → Prop} {ρ : Ren} {h : Hp} {place : Nat → Option (Nat × Nat)} : ∀ (parts : List (Nat × V)) (vparts : List (Nat × Value)) (cells : List V) (X : Array Value) (out : List V),
    fillV place cells parts = some out → VRelL w N ρ h cells X.toList → vparts.map (·.1) = parts.map (·.1) → (∀ (k : Nat) (x : Nat × V) (v : Nat × Value), parts[k]? = some x → vparts[k]? = some v → VRel w N ρ h x.2 v.2) →
    ∃ Y, Instr.fill place X vparts = some Y ∧ VRelL w N ρ h out Y.toList
  | [], vparts, cells, X, out, hf, hX, hk, _ => by
    simp only [fillV, Option.some.injEq] at hf
    subst hf
    have : vparts = [] := by simpa using hk
    subst this
    exact ⟨X, rfl, hX⟩
  | (i, x) :: parts, [], _, _, _, _, _, hk, _ => by simp at hk
  | (i, x) :: parts, (i', v) :: vparts, cells, X, out, hf, hX, hk, hr => by
    simp only [List.map_cons, List.cons.injEq] at hk
    obtain ⟨rfl, hk⟩ := hk
    simp only [fillV] at hf
    split at hf
    · simp at hf
    rename_i off size hp
    split at hf
    · simp at hf
    rename_i cs hcs
    split at hf
    · rename_i hb1 hb2
      have hb1 := beq_eq hb1
      have hb2 : off + size ≤ cells.length := Nat.le_of_ble_eq_true hb2
      have hv : VRel w N ρ h x v := hr 0 _ _ rfl rfl
      have hvc := hv.cells hcs
      have hlen := hvc.length
      have hXl := hX.length
      simp only [Array.length_toList] at hlen hXl
      have hsize : v.cells.size = size := by omega
      have hset := foldl_set v.cells.toList off 0 X (by simp; omega)
      simp only [Nat.add_zero] at hset
      obtain ⟨Y, hY, hout⟩ := run_fill parts vparts _ (v.cells.zipIdx.foldl (fun cs (c, j) => cs.setIfInBounds (off + j) c) X) out hf (by
        rw [← Array.foldl_toList, Array.toList_zipIdx, hset]
        exact hX.splice hvc) hk (fun k x v hx hv => hr (k + 1) x v hx hv)
      refine ⟨Y, ?_, hout⟩
      simp only [Instr.fill, hp]
      rw [if_neg (by simp; omega)]
      exact hY
    · simp at hf

def aBuild (P : Program) (t : TypeId) (parts : List (Nat × V)) : Option V :=
  match P.info? t with
  | none => none
  | some i => match i.zero with
    | none => none
    | some z => match P.underlying t with
      | some (.struct fs) =>
        match fillV (fun k => match fs[k]? with
          | some f => match P.info? f.type with
            | some j => some (f.offset, j.size)
            | none => none
          | none => none) (z.cells.toList.map cellV) parts with
        | some cs => match fs.toList.all (fun f => (P.info? f.type).isSome) with
          | true => some (mkAgg cs)
          | false => none
        | none => none
      | some (.array _ e) => match P.info? e with
        | none => none
        | some j => match fillV (fun k => some (k * j.size, j.size)) (z.cells.toList.map cellV) parts with
          | some cs => some (mkAgg cs)
          | none => none
      | _ => none

def plOf (P : Program) (f : Field) : Nat × Nat := (f.offset, match P.info? f.type with | some j => j.size | none => 0)

theorem mapM_places {fs : List Field} (h : fs.all (fun f => (P.info? f.type).isSome) = true) (w : World) :
    (List.mapM (m := Sem) (fun (f : Field) => (do pure (f.offset, ← sizeOf f.type) : Sem (Nat × Nat))) fs).run P w = .ok (fs.map (plOf P)) w := by
  induction fs with
  | nil => simp
  | cons f fs ih =>
    simp only [List.all_cons, Bool.and_eq_true] at h
    obtain ⟨i, hi⟩ := Option.isSome_iff_exists.1 h.1
    have hs : (sizeOf f.type).run P w = .ok i.size w := by simp [sizeOf, typeInfo, hi]
    rw [List.mapM_cons]
    simp only [Sem.run_bind, hs, Result.andThen_ok, Sem.run_pure, ih h.2]
    simp [plOf, hi]

theorem Makes.build {op : Oper} {ty : TypeId} {parts : Array (Nat × Operand)} (ho : op.op = .build ty parts) {t : Nat → V} {h : Hp} {r : V}
    (ha : aBuild P ty (parts.toList.map fun p => (p.1, evalV t p.2)) = some r) : Makes P op t h r := by
  intro E ρ a w rel
  unfold aBuild at ha
  split at ha
  · simp at ha
  rename_i i hi
  split at ha
  · simp at ha
  rename_i z hz
  have zeros := cellsV_rel w (E.NN ρ h) ρ h z.cells.toList
  have hzero : (zeroValue ty).run P w = .ok z w := by simp [zeroValue, typeInfo, hi, hz]
  have fillrel : ∀ place out, fillV place (z.cells.toList.map cellV) (parts.toList.map fun p => (p.1, evalV t p.2)) = some out →
      ∃ Y, Instr.fill place z.cells (parts.map fun p => (p.1, a.eval p.2)).toList = some Y ∧ VRelL w (E.NN ρ h) ρ h out Y.toList := by
    intro place out hf
    refine run_fill _ _ _ _ _ hf zeros (by simp) ?_
    intro k x v hx hv
    simp only [List.getElem?_map, Array.toList_map, Option.map_eq_some_iff] at hx hv
    obtain ⟨p, hp, rfl⟩ := hx
    obtain ⟨p', hp', rfl⟩ := hv
    rw [hp] at hp'
    obtain rfl := Option.some.inj hp'
    exact rel.eval p.2
  have ho' : (execOp a.eval op).run P w = ((Instr.build ty (parts.map fun p => (p.1, a.eval p.2))).run P w).andThen fun v w' => .ok (.value v) w' := by
    unfold execOp
    simp [ho]
  split at ha
  · rename_i fs hu
    split at ha
    · rename_i out hf
      split at ha
      · rename_i hall
        simp only [Option.some.injEq] at ha
        subst ha
        obtain ⟨Y, hY, hrel⟩ := fillrel _ _ hf
        refine ⟨.agg Y, ?_, VRel.mkAgg hrel⟩
        have hpl := mapM_places (P := P) hall w
        have hplaces : (Array.mapM (m := Sem) (fun (f : Field) => (do pure (f.offset, ← sizeOf f.type) : Sem (Nat × Nat))) fs).run P w = .ok (fs.map (plOf P)) w := by
          rw [Array.mapM_eq_mapM_toList, Sem.run_map, hpl]
          simp [← List.map_toArray]
        have hplace : (fun (k : Nat) => (fs.map (plOf P))[k]?) = (fun (k : Nat) => match fs[k]? with
          | some f => match P.info? f.type with
            | some j => some (f.offset, j.size)
            | none => none
          | none => none) := by
          funext k
          rw [Array.getElem?_map]
          cases hk : fs[k]? with
          | none => rfl
          | some f =>
            have hmem : f ∈ fs.toList := by
              rw [Array.mem_toList_iff]
              exact Array.mem_of_getElem? hk
            obtain ⟨j, hj⟩ := Option.isSome_iff_exists.1 (List.all_eq_true.1 hall f hmem)
            simp [hj, plOf]
        rw [ho']
        unfold Instr.build
        simp only [Sem.run_bind, hzero, Result.andThen_ok, run_underlying hu, hplaces]
        rw [hplace, hY]
        rfl
      · simp at ha
    · simp at ha
  · rename_i len e hu
    split at ha
    · simp at ha
    rename_i j hj
    split at ha
    · rename_i out hf
      simp only [Option.some.injEq] at ha
      subst ha
      obtain ⟨Y, hY, hrel⟩ := fillrel _ _ hf
      refine ⟨.agg Y, ?_, VRel.mkAgg hrel⟩
      have hs : (sizeOf e).run P w = .ok j.size w := by simp [sizeOf, typeInfo, hj]
      rw [ho']
      unfold Instr.build
      simp only [Sem.run_bind, hzero, Result.andThen_ok, run_underlying hu, hs]
      rw [hY]
      rfl
    · simp at ha
  · simp at ha

end Go.Own
