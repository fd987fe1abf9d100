/-
One operation after the other; the code of a function, walked along one way.
-/
import Derived.Test.YtlaohcpkecmhnaaOwnCall2
import Derived.Test.YtlaohcpkecmhnaaOwnOps10

set_option linter.all false

namespace Go.Own
open Go (Value IntKind BinOp UnOp TypeId FuncId)

variable {P : Program}

structure St where
  t : List (Nat × V)
  h : List (Nat × Blk)

def tmpOf (t : List (Nat × V)) (k : Nat) : V := match lk t k with
  | some v => v
  | none => .undef

theorem lk_append {α : Type} : ∀ (xs ys : List (Nat × α)) (k : Nat), lk (xs ++ ys) k = match lk xs k with | some v => some v | none => lk ys k
  | [], _, _ => rfl
  | (j, v) :: xs, ys, k => by
    rw [List.cons_append]
    simp only [lk]
    cases Nat.beq j k with
    | true => rfl
    | false => exact lk_append xs ys k

theorem lk_cons {α : Type} (k : Nat) (x : α) (l : List (Nat × α)) : lk ((k, x) :: l) = upd (lk l) k (some x) := by
  funext j
  simp only [lk, upd]
  cases h : Nat.beq k j with
  | true => have := beq_eq h; subst this; simp
  | false =>
    have : j ≠ k := by
      intro e
      subst e
      simp at h
    rw [if_neg this]

theorem tmpOf_cons (k : Nat) (x : V) (l : List (Nat × V)) : tmpOf ((k, x) :: l) = upd (tmpOf l) k x := by
  funext j
  unfold tmpOf
  rw [lk_cons]
  simp only [upd]
  split <;> rename_i h
  · split at h
    · rename_i hj; simp at h; simp [hj, h]
    · rename_i hj; rw [if_neg hj, h]
  · split at h
    · simp at h
    · rename_i hj; rw [if_neg hj, h]

def putL (t : List (Nat × V)) : Option Nat → V → List (Nat × V)
  | none, _ => t
  | some d, x => (d, x) :: t

theorem putL_eq (t : List (Nat × V)) (d : Option Nat) (x : V) : tmpOf (putL t d x) = putT (tmpOf t) d x := by
  cases d with
  | none => rfl
  | some d => exact tmpOf_cons d x t

structure ResO where
  x : V
  ups : List (Nat × Blk)
  vc : List Prop

def kills : List Nat → List (Nat × Blk)
  | [] => []
  | k :: r => (k, .dead) :: kills r

theorem lk_kills : ∀ (ks : List Nat) (id : Nat), lk (kills ks) id = match memN ks id with | true => some .dead | false => none
  | [], _ => rfl
  | k :: r, id => by
    simp only [kills, lk, memN]
    cases Nat.beq k id with
    | true => rfl
    | false => exact lk_kills r id

theorem behindH_eq (h : List (Nat × Blk)) (ks : List Nat) (hout : List (Nat × Blk)) : lk (hout ++ kills ks ++ h) = behindH (lk h) ks hout := by
  funext id
  rw [lk_append, lk_append, lk_kills]
  unfold behindH
  cases lk hout id with
  | some k => rfl
  | none => cases memN ks id <;> rfl

def idOf (o : Orc) (d : Nat) : Nat := match lk o.ids d with
  | some i => i
  | none => d

def fresh (h : List (Nat × Blk)) (id : Nat) : Bool := match lk h id with
  | none => true
  | some _ => false

theorem fresh_none {h : List (Nat × Blk)} {id : Nat} (hf : fresh h id = true) : lk h id = none := by
  unfold fresh at hf
  split at hf
  · assumption
  · simp at hf

/-- A name that isn't in use yet. -/
def nextId (h : List (Nat × Blk)) : Nat → Nat → Nat
  | 0, i => i
  | f + 1, i => match fresh h i with
    | true => i
    | false => nextId h f (i + 512)

def Orc.named (o : Orc) (h : List (Nat × Blk)) : Option Nat → Orc
  | none => o
  | some d => { o with ids := [(d, nextId h 150 (idOf o d))] }

def val0 (x : Option V) : Option ResO := match x with
  | some v => some ⟨v, [], []⟩
  | none => none

def val1 (x : Option (V × List Prop)) : Option ResO := match x with
  | some (v, p) => some ⟨v, [], p⟩
  | none => none

/-- Told to stay within the room. -/
def fitDst (o : Orc) : Option Nat → Bool
  | none => false
  | some d => memN o.fit d

def aOp0 (P : Program) (o : Orc) (t : List (Nat × V)) (h : List (Nat × Blk)) (op : Oper) : Option ResO :=
  match op.op with
  | .move x => some ⟨evalV (tmpOf t) x, [], []⟩
  | .assign x => some ⟨evalV (tmpOf t) x, [], []⟩
  | .pick c a b => val1 (aPick o c (evalV (tmpOf t) c) (evalV (tmpOf t) a) (evalV (tmpOf t) b))
  | .load ty x => val1 (aLoad P (lk h) (o.hint op.dst) ty (evalV (tmpOf t) x))
  | .nilCheck x => val0 (aNilCheck (lk h) (evalV (tmpOf t) x))
  | .binOp b ty x y _ => match isNilOp y with
    | true => val1 (aNilCmp P b ty (evalV (tmpOf t) x))
    | false => val1 (aBin P b ty (evalV (tmpOf t) x) (evalV (tmpOf t) y))
  | .unOp u _ x => val0 (aUn u (evalV (tmpOf t) x))
  | .convert s d x => val0 (aConv P s d (evalV (tmpOf t) x))
  | .makeInterface ty x => val0 (aIface P ty (evalV (tmpOf t) x))
  | .makeFunc f first caps => some ⟨mkFn f (first.toList.map (evalV (tmpOf t))) (caps.toList.map (evalV (tmpOf t))), [], []⟩
  | .slice ty x lo hi mx => match fitDst o op.dst with
    | true => val1 (aSliceC P (lk h) ty (evalV (tmpOf t) x) (lo.map (evalV (tmpOf t))) (hi.map (evalV (tmpOf t))) mx.isSome)
    | false => val1 (aSlice P (lk h) ty (evalV (tmpOf t) x) (lo.map (evalV (tmpOf t))) (hi.map (evalV (tmpOf t))) (mx.map (evalV (tmpOf t))))
  | .fieldAddr ty x f => val0 (aFieldAddr P (lk h) ty (evalV (tmpOf t) x) f)
  | .field ty x f => val0 (aField P ty (evalV (tmpOf t) x) f)
  | .indexAddr ty x i => val1 (aIndexAddr P (lk h) (o.hint op.dst) ty (evalV (tmpOf t) x) (evalV (tmpOf t) i))
  | .index ty x i => val1 (aIndex P ty (evalV (tmpOf t) x) (evalV (tmpOf t) i))
  | .extract x i => val0 (aExtract (evalV (tmpOf t) x) i)
  | .build ty parts => val0 (aBuild P ty (parts.toList.map fun p => (p.1, evalV (tmpOf t) p.2)))
  | .alloc ty => match op.dst with
    | none => none
    | some d => match fresh h (idOf o d), aAlloc P ty with
      | true, some blk => some ⟨.ptr (idOf o d) 0 0, [(idOf o d, blk)], []⟩
      | _, _ => none
  | .box ty x => match op.dst with
    | none => none
    | some d => match fresh h (idOf o d), aBox P ty (evalV (tmpOf t) x) with
      | true, some blk => some ⟨.ptr (idOf o d) 0 0, [(idOf o d, blk)], []⟩
      | _, _ => none
  | .store ty x v => match aStore P (lk h) (match x with | .tmp k => lk o.val k | _ => none) ty (evalV (tmpOf t) x) (evalV (tmpOf t) v) with
    | some (id, blk, p) => some ⟨.undef, [(id, blk)], p⟩
    | none => none
  | .buildSlice ty len parts => match op.dst with
    | none => none
    | some d => match fresh h (idOf o d), aBuildSlice P ty len (parts.toList.map fun p => (p.1, evalV (tmpOf t) p.2)) with
      | true, some (sz, es) => some ⟨.ref (idOf o d) 0 none (some len), [(idOf o d, .row sz es)], []⟩
      | _, _ => none
  | .makeSlice ty l c => match op.dst with
    | none => none
    | some d => match fresh h (idOf o d), aMakeSlice P ty (opSame l c) (evalV (tmpOf t) l) (evalV (tmpOf t) c) with
      | true, some (sz, z, x, m, p) => some ⟨setId (idOf o d) x, [(idOf o d, .row sz (List.replicate m.toNat z))], p⟩
      | _, _ => none
  | .call c => match c.callee with
    | .value f => match op.dst with
      | none => none
      | some d => match lk o.call d with
        | none => none
        | some co => match aCall P (lk h) co (evalV (tmpOf t) f) (c.args.toList.map (evalV (tmpOf t))) with
          | none => none
          | some (x, p) => match co.pure with
            | true => some ⟨x, [], p⟩
            | false => some ⟨x, co.hout ++ kills co.hin, p⟩
    | .builtin .len => match c.args.toList, c.argTypes.toList with
      | [x], [ty] => val0 (aLen P (lk h) ty (evalV (tmpOf t) x))
      | _, _ => none
    | .builtin .min => match c.args.toList with
      | [x, y] => val0 (aMinMax false (evalV (tmpOf t) x) (evalV (tmpOf t) y))
      | _ => none
    | .builtin .max => match c.args.toList with
      | [x, y] => val0 (aMinMax true (evalV (tmpOf t) x) (evalV (tmpOf t) y))
      | _ => none
    | .builtin .append => match op.dst with
      | none => none
      | some d => match c.args.toList, c.argTypes.toList with
        | [s, x], [ty, tx] => match memN o.fit d with
         | true => match aAppendFit P (lk h) ty tx (evalV (tmpOf t) s) (evalV (tmpOf t) x) with
            | some (v, id, blk, p) => some ⟨v, [(id, blk)], p⟩
            | none => none
         | false => match fresh h (idOf o d), aAppend P (lk h) (match lk o.br d with | some b => b | none => false) ty tx (evalV (tmpOf t) s) (evalV (tmpOf t) x) with
          | true, some (ao, p) => match ao.kill with
            | none => some ⟨.ref (idOf o d) 0 none none, [(idOf o d, .row ao.sz ao.es)], p⟩
            | some k => some ⟨.ref (idOf o d) 0 none none, [(idOf o d, .row ao.sz ao.es), (k, .dead)], p⟩
          | _, _ => none
        | _, _ => none
    | .builtin .clear => match c.args.toList, c.argTypes.toList with
      | [x], [ty] => match aClear P (lk h) ty (evalV (tmpOf t) x) with
        | some (id, blk, p) => some ⟨.tup [], [(id, blk)], p⟩
        | none => none
      | _, _ => none
    | _ => none
  | _ => none

theorem val0_some {x : Option V} {r : ResO} (h : val0 x = some r) : x = some r.x ∧ r.ups = [] := by
  unfold val0 at h
  split at h
  · simp only [Option.some.injEq] at h; subst h; exact ⟨rfl, rfl⟩
  · simp at h

theorem val1_some {x : Option (V × List Prop)} {r : ResO} (h : val1 x = some r) : x = some (r.x, r.vc) ∧ r.ups = [] := by
  unfold val1 at h
  split at h
  · simp only [Option.some.injEq] at h; subst h; exact ⟨rfl, rfl⟩
  · simp at h

theorem toList_one {α : Type} {xs : Array α} {x : α} (h : xs.toList = [x]) : xs = #[x] := by
  cases xs; simp at h; subst h; rfl
theorem toList_two {α : Type} {xs : Array α} {x y : α} (h : xs.toList = [x, y]) : xs = #[x, y] := by
  cases xs; simp at h; subst h; rfl

theorem aOp0_sound {o : Orc} {t : List (Nat × V)} {h : List (Nat × Blk)} {op : Oper} {r : ResO} (ha : aOp0 P o t h op = some r) (hp : AllP r.vc) : StepsW P op (tmpOf t) (lk h) r.x (lk (r.ups ++ h)) := by
  have mk : ∀ x, Makes P op (tmpOf t) (lk h) x → r.x = x → r.ups = [] → StepsW P op (tmpOf t) (lk h) r.x (lk (r.ups ++ h)) := by
    intro x m hx hu
    rw [hx, hu]
    exact m.steps.wp
  unfold aOp0 at ha
  split at ha
  · rename_i x ho
    simp only [Option.some.injEq] at ha
    subst ha
    exact mk _ (Makes.move (.inl ho)) rfl rfl
  · rename_i x ho
    simp only [Option.some.injEq] at ha
    subst ha
    exact mk _ (Makes.move (.inr ho)) rfl rfl
  · rename_i c a b ho
    obtain ⟨h1, h2⟩ := val1_some ha
    exact mk _ (Makes.pick ho h1 hp) rfl h2
  · rename_i ty x ho
    obtain ⟨h1, h2⟩ := val1_some ha
    exact mk _ (Makes.load ho h1 hp) rfl h2
  · rename_i x ho
    obtain ⟨h1, h2⟩ := val0_some ha
    exact mk _ (Makes.nilCheck ho h1) rfl h2
  · rename_i b ty x y u ho
    split at ha
    · rename_i hn
      obtain ⟨h1, h2⟩ := val1_some ha
      have hy : y = .const (.slice none 0 0) := by
        unfold isNilOp at hn
        split at hn
        · rfl
        · cases hn
      subst hy
      exact mk _ (Makes.nilCmp ho h1 hp) rfl h2
    · obtain ⟨h1, h2⟩ := val1_some ha
      exact mk _ (Makes.bin ho h1 hp) rfl h2
  · rename_i u ty x ho
    obtain ⟨h1, h2⟩ := val0_some ha
    exact mk _ (Makes.un ho h1) rfl h2
  · rename_i s d x ho
    obtain ⟨h1, h2⟩ := val0_some ha
    exact mk _ (Makes.conv ho h1) rfl h2
  · rename_i ty x ho
    obtain ⟨h1, h2⟩ := val0_some ha
    exact mk _ (Makes.makeIface ho h1) rfl h2
  · rename_i f first caps ho
    simp only [Option.some.injEq] at ha
    subst ha
    exact mk _ (Makes.makeFunc ho) rfl rfl
  · rename_i ty x lo hi mx ho
    split at ha
    · obtain ⟨h1, h2⟩ := val1_some ha
      exact mk _ (Makes.sliceC ho h1 hp) rfl h2
    · obtain ⟨h1, h2⟩ := val1_some ha
      exact mk _ (Makes.slice ho h1 hp) rfl h2
  · rename_i ty x f ho
    obtain ⟨h1, h2⟩ := val0_some ha
    exact mk _ (Makes.fieldAddr ho h1) rfl h2
  · rename_i ty x f ho
    obtain ⟨h1, h2⟩ := val0_some ha
    exact mk _ (Makes.field ho h1) rfl h2
  · rename_i ty x i ho
    obtain ⟨h1, h2⟩ := val1_some ha
    exact mk _ (Makes.indexAddr ho h1 hp) rfl h2
  · rename_i ty x i ho
    obtain ⟨h1, h2⟩ := val1_some ha
    exact mk _ (Makes.index ho h1 hp) rfl h2
  · rename_i x i ho
    obtain ⟨h1, h2⟩ := val0_some ha
    exact mk _ (Makes.extract ho h1) rfl h2
  · rename_i ty parts ho
    obtain ⟨h1, h2⟩ := val0_some ha
    exact mk _ (Makes.build ho h1) rfl h2
  · rename_i ty ho
    split at ha
    · simp at ha
    split at ha
    · rename_i hf hb
      simp only [Option.some.injEq] at ha
      subst ha
      have := (Steps.alloc (t := tmpOf t) ho hb (fresh_none hf)).wp
      rw [List.singleton_append, lk_cons]
      exact this
    · simp at ha
  · rename_i ty x ho
    split at ha
    · simp at ha
    split at ha
    · rename_i hf hb
      simp only [Option.some.injEq] at ha
      subst ha
      have := (Steps.box (t := tmpOf t) ho hb (fresh_none hf)).wp
      rw [List.singleton_append, lk_cons]
      exact this
    · simp at ha
  · rename_i ty x v ho
    split at ha
    · rename_i id blk p hs
      simp only [Option.some.injEq] at ha
      subst ha
      have := (Steps.store (t := tmpOf t) ho hs hp).wp
      rw [List.singleton_append, lk_cons]
      exact this
    · simp at ha
  · rename_i ty len parts ho
    split at ha
    · simp at ha
    split at ha
    · rename_i hf hb
      simp only [Option.some.injEq] at ha
      subst ha
      have := (Steps.buildSlice (t := tmpOf t) ho hb (fresh_none hf)).wp
      rw [List.singleton_append, lk_cons]
      exact this
    · simp at ha
  · rename_i ty l c ho
    split at ha
    · simp at ha
    split at ha
    · rename_i hf hb
      simp only [Option.some.injEq] at ha
      subst ha
      have := (Steps.makeSlice (t := tmpOf t) ho hb hp (fresh_none hf)).wp
      rw [List.singleton_append, lk_cons]
      exact this
    · simp at ha
  · rename_i c ho
    obtain ⟨cal, args, tys⟩ := c
    simp only at ha
    split at ha
    · rename_i f
      split at ha
      · simp at ha
      split at ha
      · simp at ha
      rename_i co hco
      split at ha
      · simp at ha
      rename_i x p hc
      split at ha
      · rename_i hpure
        simp only [Option.some.injEq] at ha
        subst ha
        have := StepsW.call (t := tmpOf t) ho hc hp
        rw [hpure] at this
        exact this
      · rename_i hpure
        simp only [Option.some.injEq] at ha
        subst ha
        have := StepsW.call (t := tmpOf t) ho hc hp
        rw [hpure] at this
        rw [behindH_eq]
        exact this
    · split at ha
      · rename_i x ty e1 e2
        have e1 := toList_one e1
        have e2 := toList_one e2
        subst e1 e2
        obtain ⟨h1, h2⟩ := val0_some ha
        exact mk _ (Makes.len ho h1) rfl h2
      · simp at ha
    · split at ha
      · rename_i x y e1
        have e1 := toList_two e1
        subst e1
        obtain ⟨h1, h2⟩ := val0_some ha
        exact mk _ (Makes.minmax (max := false) ho h1) rfl h2
      · simp at ha
    · split at ha
      · rename_i x y e1
        have e1 := toList_two e1
        subst e1
        obtain ⟨h1, h2⟩ := val0_some ha
        exact mk _ (Makes.minmax (max := true) ho h1) rfl h2
      · simp at ha
    · split at ha
      · simp at ha
      split at ha
      · rename_i s x ty tx e1 e2
        have e1 := toList_two e1
        have e2 := toList_two e2
        subst e1 e2
        split at ha
        · split at ha
          · rename_i v id blk p hb
            simp only [Option.some.injEq] at ha
            subst ha
            have := (Steps.appendFit (t := tmpOf t) ho hb hp).wp
            rw [List.singleton_append, lk_cons]
            exact this
          · simp at ha
        split at ha
        · rename_i ao p hf hb
          split at ha
          · rename_i hk
            simp only [Option.some.injEq] at ha
            subst ha
            have := (Steps.append (t := tmpOf t) ho hb hp (fresh_none hf)).wp
            rw [hk] at this
            rw [List.singleton_append, lk_cons]
            exact this
          · rename_i k hk
            simp only [Option.some.injEq] at ha
            subst ha
            have := (Steps.append (t := tmpOf t) ho hb hp (fresh_none hf)).wp
            rw [hk] at this
            show StepsW P op (tmpOf t) (lk h) _ (lk ((_, _) :: (k, Blk.dead) :: h))
            rw [lk_cons, lk_cons]
            exact this
        · simp at ha
      · simp at ha
    · split at ha
      · rename_i x ty e1 e2
        have e1 := toList_one e1
        have e2 := toList_one e2
        subst e1 e2
        split at ha
        · rename_i id blk p hb
          simp only [Option.some.injEq] at ha
          subst ha
          have := (Steps.clear (t := tmpOf t) ho hb hp).wp
          rw [List.singleton_append, lk_cons]
          exact this
        · simp at ha
      · simp at ha
    · simp at ha
  · simp at ha

/-- What reads as this reads as that. -/
def DLe (a b : D) : Prop := ∀ (w : World) (N : Nat → Prop) (v : Value), DRel w N a v → DRel w N b v

/-- The result as another datum. -/
def asSet (o : Orc) (dst : Option Nat) (r : ResO) : ResO := match dst with
  | none => r
  | some d => match lk o.set d with
    | none => r
    | some y => match r.x with
      | .d a => ⟨.d y, r.ups, r.vc ++ [DLe a y]⟩
      | _ => r

/-- A row of the function's own that it gives up: data from here on. -/
def asGive (o : Orc) (dst : Option Nat) (h : List (Nat × Blk)) (r : ResO) : ResO := match dst with
  | none => r
  | some d => match memN o.give d with
    | false => r
    | true => match r.x with
      | .ref id off len _ => match lk (r.ups ++ h) id with
        | some (.row sz es) => ⟨.d (.sl sz (subR es off len)), (id, .dead) :: r.ups, r.vc⟩
        | _ => r
      | _ => r

def aOp (P : Program) (o : Orc) (t : List (Nat × V)) (h : List (Nat × Blk)) (op : Oper) : Option ResO := match aOp0 P o t h op with
  | none => none
  | some r => some (asGive o op.dst h (asSet o op.dst r))

theorem RelAt.give {E : Env} {ρ : Ren} {t : Nat → V} {h : Hp} {a : Act} {w : World} (r : RelAt E ρ t h a w) {id off sz : Nat} {len cap : Option Nat} {es : List D} {v : Value} (hk : h id = some (.row sz es)) (hv : VRel w (E.NN ρ h) ρ h (.ref id off len cap) v) :
    RelAt E ρ t (upd h id (some .dead)) a w ∧ VRel w (E.NN ρ (upd h id (some .dead))) ρ (upd h id (some .dead)) (.d (.sl sz (subR es off len))) v := by
  simp only [VRel] at hv
  rw [hk] at hv
  obtain ⟨hle, hlen, hcases⟩ := ref_cells r hk hv
  obtain ⟨rk, kk⟩ := r.kill (id := id) (by rw [hk]; simp)
  refine ⟨rk, ?_⟩
  simp only [VRel, DRel]
  rcases hcases with ⟨_, ⟨ad, hsv⟩, hoes, h0⟩ | ⟨q, ad, c, vs, hq, hsv, hLc, hcap, had, hroom, hcells, hrel⟩
  · rw [hsv]
    exact ⟨ad, 0, 0, rfl, by omega, Nat.le_refl _, .inl (List.eq_nil_of_length_eq_zero (by omega))⟩
  · rw [hsv]
    refine ⟨ad, _, c, rfl, rfl, hLc, ?_⟩
    by_cases hnil : subR es off len = []
    · exact .inl hnil
    right
    have hpos : 0 < (subR es off len).length := List.length_pos_iff.2 hnil
    have had : ad = some ⟨q.b, q.o + off * sz, none⟩ := by
      rcases had with h0 | h0
      · omega
      · exact h0
    have hl : live (h id) = true := by rw [hk]; rfl
    refine ⟨q.b, q.o + off * sz, vs, had, ?_, r.lt id q hl hq, hcells, DRelE.keep kk.data _ _ _ hrel⟩
    rintro (hN | ⟨j, p, hj, hp, hpe⟩)
    · rcases r.mine id q hl hq with h1 | h1
      · have := E.low _ hN; omega
      · exact E.apart _ hN h1
    · by_cases e : j = id
      · subst e; rw [upd_same] at hj; simp [live] at hj
      · rw [upd_other _ _ e] at hj
        exact e (r.inj j id p q hj hl hp hq hpe)

theorem asSet_sound {o : Orc} {t : List (Nat × V)} {h : List (Nat × Blk)} {op : Oper} {r0 : ResO} (h0 : aOp0 P o t h op = some r0) (hp : AllP (asSet o op.dst r0).vc) : StepsW P op (tmpOf t) (lk h) (asSet o op.dst r0).x (lk ((asSet o op.dst r0).ups ++ h)) := by
  unfold asSet at hp ⊢
  split at hp
  · exact aOp0_sound h0 hp
  split at hp
  · exact aOp0_sound h0 hp
  split at hp
  · rename_i a hx
    rw [AllP.app] at hp
    have s := aOp0_sound h0 hp.1
    intro E ρ ac w rel K Q hK
    refine s E ρ ac w rel K Q (fun ρ' v w' rel' hv => hK ρ' v w' rel' ?_)
    rw [hx] at hv
    simp only [VRel] at hv ⊢
    exact hp.2.1 _ _ _ hv
  · exact aOp0_sound h0 hp

theorem aOp_sound {o : Orc} {t : List (Nat × V)} {h : List (Nat × Blk)} {op : Oper} {r : ResO} (ha : aOp P o t h op = some r) (hp : AllP r.vc) : StepsW P op (tmpOf t) (lk h) r.x (lk (r.ups ++ h)) := by
  unfold aOp at ha
  split at ha
  · simp at ha
  rename_i r0 h0
  simp only [Option.some.injEq] at ha
  subst ha
  generalize hr : asSet o op.dst r0 = r1 at hp
  have base : AllP r1.vc → StepsW P op (tmpOf t) (lk h) r1.x (lk (r1.ups ++ h)) := fun hp => by subst hr; exact asSet_sound h0 hp
  unfold asGive at hp ⊢
  split at hp
  · exact base hp
  split at hp
  · exact base hp
  split at hp
  · rename_i id off len cap hx
    split at hp
    · rename_i sz es hk
      intro E ρ ac w rel K Q hK
      refine base hp E ρ ac w rel K Q (fun ρ' v w' rel' hv => ?_)
      rw [hx] at hv
      obtain ⟨h1, h2⟩ := rel'.give hk hv
      have e : lk ((id, Blk.dead) :: r1.ups ++ h) = upd (lk (r1.ups ++ h)) id (some .dead) := by rw [List.cons_append, lk_cons]
      exact hK ρ' v w' (by rw [e]; exact h1) (by rw [e]; exact h2)
    · exact base hp
  · exact base hp

end Go.Own
