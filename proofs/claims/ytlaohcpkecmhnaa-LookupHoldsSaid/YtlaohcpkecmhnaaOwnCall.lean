/-
Contracts of functions, and the call of one.
-/
import Derived.Test.YtlaohcpkecmhnaaOwnOps9

set_option linter.all false

namespace Go.Own
open Go (Value IntKind BinOp UnOp TypeId FuncId)

variable {P : Program}

/-! ### Data without references -/
mutual
def D.flat : D → Bool
  | .bool _ => true
  | .int _ _ => true
  | .str _ => true
  | .agg ds => D.flatL ds
  | .nilp => true
  | .nilfn => true
  | .nilif => true
  | .nilmap => true
  | .iface _ d => D.flat d
  | _ => false
def D.flatL : List D → Bool
  | [] => true
  | d :: ds => D.flat d && D.flatL ds
end

mutual
theorem DRel.flat {w w' : World} {N N' : Nat → Prop} : ∀ (d : D) (v : Value), d.flat = true → DRel w N d v → DRel w' N' d v
  | .bool _, _, _, h => by simpa only [DRel] using h
  | .int _ _, _, _, h => by simpa only [DRel] using h
  | .str _, _, _, h => by simpa only [DRel] using h
  | .agg ds, v, hf, h => by
    simp only [DRel] at h ⊢
    simp only [D.flat] at hf
    obtain ⟨cs, rfl, h⟩ := h
    exact ⟨cs, rfl, DRelL.flat ds _ hf h⟩
  | .nilp, _, _, h => by simpa only [DRel] using h
  | .nilfn, _, _, h => by simpa only [DRel] using h
  | .nilif, _, _, h => by simpa only [DRel] using h
  | .nilmap, _, _, h => by simpa only [DRel] using h
  | .iface t d, v, hf, h => by
    simp only [DRel] at h ⊢
    simp only [D.flat] at hf
    obtain ⟨x, rfl, h⟩ := h
    exact ⟨x, rfl, DRel.flat d x hf h⟩
  | .sl _ _, _, hf, _ => by simp [D.flat] at hf
  | .ptr _, _, hf, _ => by simp [D.flat] at hf
  | .fn _ _ _, _, hf, _ => by simp [D.flat] at hf
  | .map _ _, _, hf, _ => by simp [D.flat] at hf
theorem DRelL.flat {w w' : World} {N N' : Nat → Prop} : ∀ (ds : List D) (vs : List Value), D.flatL ds = true → DRelL w N ds vs → DRelL w' N' ds vs
  | [], _, _, h => by simpa only [DRelL] using h
  | d :: ds, vs, hf, h => by
    simp only [DRelL] at h ⊢
    simp only [D.flatL, Bool.and_eq_true] at hf
    obtain ⟨v, r, rfl, h1, h2⟩ := h
    exact ⟨v, r, rfl, DRel.flat d v hf.1 h1, DRelL.flat ds r hf.2 h2⟩
end

theorem DRelE.flat {w w' : World} {N N' : Nat → Prop} {sz : Nat} : ∀ {ds : List D} {vs : List Value}, (∀ d ∈ ds, d.flat = true) → DRelE w N sz ds vs → DRelE w' N' sz ds vs
  | [], _, _, h => by simpa only [DRelE] using h
  | d :: ds, vs, hf, h => by
    simp only [DRelE] at h ⊢
    obtain ⟨v, r, rfl, hs, h1, h2⟩ := h
    exact ⟨v, r, rfl, hs, DRel.flat d v (hf d (by simp)) h1, DRelE.flat (fun e he => hf e (by simp [he])) h2⟩

mutual
def V.flat : V → Bool
  | .undef => true
  | .d x => x.flat
  | .agg cs => V.flatL cs
  | .tup vs => V.flatL vs
  | .nils => true
  | .ref _ _ _ _ => true
  | .ptr _ _ _ => true
  | .fn _ first caps => V.flatL first && V.flatL caps
  | .iface _ v => V.flat v
  | .mapr _ => true
  | .nilx _ => true
def V.flatL : List V → Bool
  | [] => true
  | v :: vs => V.flat v && V.flatL vs
end

mutual
theorem VRel.flat {w : World} {N N' : Nat → Prop} {ρ : Ren} {h : Hp} : ∀ (x : V) (v : Value), x.flat = true → VRel w N ρ h x v → VRel w N' ρ h x v
  | .undef, _, _, _ => by simp only [VRel]
  | .d x, v, hf, r => by simp only [VRel, V.flat] at *; exact DRel.flat x v hf r
  | .agg cs, v, hf, r => by
    simp only [VRel, V.flat] at *
    obtain ⟨a, rfl, r⟩ := r
    exact ⟨a, rfl, VRelL.flat cs _ hf r⟩
  | .tup cs, v, hf, r => by
    simp only [VRel, V.flat] at *
    obtain ⟨a, rfl, r⟩ := r
    exact ⟨a, rfl, VRelL.flat cs _ hf r⟩
  | .nils, _, _, r => by simpa only [VRel] using r
  | .ref _ _ _ _, _, _, r => by simpa only [VRel] using r
  | .ptr _ _ _, _, _, r => by simpa only [VRel] using r
  | .fn f first caps, v, hf, r => by
    simp only [VRel, V.flat, Bool.and_eq_true] at *
    obtain ⟨fs, cs, rfl, r1, r2⟩ := r
    exact ⟨fs, cs, rfl, VRelL.flat _ _ hf.1 r1, VRelL.flat _ _ hf.2 r2⟩
  | .iface t x, v, hf, r => by
    simp only [VRel, V.flat] at *
    obtain ⟨u, rfl, r⟩ := r
    exact ⟨u, rfl, VRel.flat x u hf r⟩
  | .mapr _, _, _, r => by simpa only [VRel] using r
  | .nilx _, _, _, r => by simpa only [VRel] using r
theorem VRelL.flat {w : World} {N N' : Nat → Prop} {ρ : Ren} {h : Hp} : ∀ (xs : List V) (vs : List Value), V.flatL xs = true → VRelL w N ρ h xs vs → VRelL w N' ρ h xs vs
  | [], _, _, r => by simpa only [VRelL] using r
  | x :: xs, vs, hf, r => by
    simp only [VRelL, V.flatL, Bool.and_eq_true] at *
    obtain ⟨v, q, rfl, r1, r2⟩ := r
    exact ⟨v, q, rfl, VRel.flat x v hf.1 r1, VRelL.flat xs q hf.2 r2⟩
end

/-- What a call hands back holds no data that lie in memory. -/
def FlatB : Blk → Prop
  | .box cs => V.flatL cs = true
  | .row _ es => ∀ e ∈ es, e.flat = true
  | .dead => True
  | .map ks vs => D.flatL ks = true ∧ D.flatL vs = true

def FlatOut (x : V) (hs : List (Nat × Blk)) : Prop := x.flat = true ∧ ∀ p ∈ hs, FlatB p.2

theorem BlkRel.flat {w : World} {N N' : Nat → Prop} {ρ : Ren} {h : Hp} {p : Option Pl} {b : Blk} (hf : FlatB b) (r : BlkRel w N ρ h p b) : BlkRel w N' ρ h p b := by
  cases b with
  | dead => trivial
  | box cs =>
    obtain ⟨q, cells, elem, rfl, h1, h2, h3, h4⟩ := r
    exact ⟨q, cells, elem, rfl, h1, h2, h3, VRelL.flat _ _ hf h4⟩
  | row sz es =>
    rcases r with r | ⟨q, cells, elem, pre, vs, post, rfl, h1, h2, h3, h4, h5⟩
    · exact .inl r
    · exact .inr ⟨q, cells, elem, pre, vs, post, rfl, h1, h2, h3, h4, DRelE.flat hf h5⟩
  | map ks vs =>
    obtain ⟨q, es, clock, rfl, h0, h1, h2, h3⟩ := r
    exact ⟨q, es, clock, rfl, h0, h1, DRelL.flat _ _ hf.1 h2, DRelL.flat _ _ hf.2 h3⟩

/-! ### Contracts -/
inductive Out where
  | ret (x : V)
  | pan (x : V)

def OutRel (w : World) (N : Nat → Prop) (ρ : Ren) (h : Hp) : Out → Ending → Prop
  | .ret x, .returned v => VRel w N ρ h x v
  | .pan x, .panicked chain => ∃ v, chain = [{ v, recovered := false }] ∧ VRel w N ρ h x v
  | _, _ => False

/-- The blocks of a fragment lie somewhere, apart. -/
structure Lies (w : World) (N : Nat → Prop) (ρ : Ren) (h : Hp) : Prop where
  heap : ∀ id k, h id = some k → BlkRel w N ρ h (ρ id) k
  inj : Inj ρ h
  lt : ∀ id q, live (h id) = true → ρ id = some q → q.b < w.heap.size

def Enters (P : Program) (f : FuncId) : Prop := ∀ (args : Array Value) (w : World), (callFunc f args).run P w = .ok (.enter f args) w

structure Behind (w w' : World) (N0 : Nat → Prop) (ρ ρ' : Ren) (h h' : Hp) : Prop where
  lies : Lies w' (fun b => N0 b ∨ Mine ρ' h' b) ρ' h'
  blk : ∀ id, live (h id) = true → live (h' id) = true → ρ' id = ρ id ∧ BlkLe (h id) (h' id)
  new : ∀ id q, live (h' id) = true → ρ' id = some q → w.heap.size ≤ q.b ∨ Mine ρ h q.b
  size : w.heap.size ≤ w'.heap.size
  frame : ∀ b, b < w.heap.size → ¬ Mine ρ h b → w'.heap[b]? = w.heap[b]?
  os : w'.os = w.os
  tape : w'.tape = w.tape
  output : w'.output = w.output
  drawn : w.drawn ≤ w'.drawn

/-- THE CONTRACT: called with these arguments, the function comes to this; the blocks that were handed in are behind it so. -/
def FnOk (P : Program) (f : FuncId) (args : List V) (hin : List (Nat × Blk)) (out : Out) (hout : List (Nat × Blk)) : Prop :=
  Enters P f ∧ ∀ (w : World) (N0 : Nat → Prop) (ρ : Ren) (vs : Array Value), (∀ b, N0 b → b < w.heap.size) → (∀ b, N0 b → ¬ Mine ρ (lk hin) b) →
    VRelL w (fun b => N0 b ∨ Mine ρ (lk hin) b) ρ (lk hin) args vs.toList → Lies w (fun b => N0 b ∨ Mine ρ (lk hin) b) ρ (lk hin) →
    Calls P f vs w fun e w' => ∃ ρ', OutRel w' (fun b => N0 b ∨ Mine ρ' (lk hout) b) ρ' (lk hout) out e ∧ Behind w w' N0 ρ ρ' (lk hin) (lk hout)

/-- A function without a Go body that only computes. -/
def PureOk (P : Program) (f : FuncId) (args : List V) (x : V) : Prop :=
  ∀ (w : World) (N : Nat → Prop) (ρ : Ren) (h : Hp) (vs : Array Value), VRelL w N ρ h args vs.toList → ∃ v, (callFunc f vs).run P w = .ok (.value v) w ∧ VRel w N ρ h x v

/-- The operation comes to this value, by itself or through a call. -/
def StepsW (P : Program) (op : Oper) (t : Nat → V) (h : Hp) (x : V) (h' : Hp) : Prop :=
  ∀ (E : Env) (ρ : Ren) (a : Act) (w : World), RelAt E ρ t h a w → ∀ (K : Act → World → Prop) (Q : Exit → Act → World → Prop),
    (∀ ρ' v w', RelAt E ρ' t h' a w' → VRel w' (E.NN ρ' h') ρ' h' x v → K (a.put op.dst v) w') → op.wp P a w K Q

theorem Steps.wp {op : Oper} {t : Nat → V} {h : Hp} {x : V} {h' : Hp} (s : Steps P op t h x h') : StepsW P op t h x h' := by
  intro E ρ a w r K Q hK
  obtain ⟨n, w', ρ', hrun, hr, hx⟩ := s E ρ a w r
  unfold Oper.wp
  rw [hrun]
  rcases hx with ⟨v, rfl, hv⟩ | ⟨rfl, rfl⟩
  · exact hK ρ' v w' hr hv
  · exact hK ρ' _ w' hr (by simp only [VRel])

/-! ### Lending: data in the place of references -/
/-- A value, those references that aren't kept being looked through; and whether one was. -/
def boxD (cs : List V) : Option (List D) :=
  match cs with
  | [] => some []
  | x :: r => match simpleD x with
    | some d => match boxD r with
      | some ds => some (d :: ds)
      | none => none
    | none => none

def memN (ks : List Nat) (n : Nat) : Bool := match ks with
  | [] => false
  | k :: r => match Nat.beq k n with
    | true => true
    | false => memN r n

mutual
def low (ks : List Nat) (h : Hp) : V → Option (V × Bool)
  | .undef => some (.undef, false)
  | .d x => some (.d x, false)
  | .nils => some (.nils, false)
  | .nilx b => some (.nilx b, false)
  | .tup _ => none
  | .agg cs => match lowL ks h cs with
    | some (ys, b) => some (mkAgg ys, b)
    | none => none
  | .ref id off len cap => match memN ks id with
    | true => some (.ref id off len cap, false)
    | false => match h id with
      | some (.row sz es) => some (.d (.sl sz (subR es off len)), true)
      | _ => none
  | .ptr id j c => match memN ks id with
    | true => some (.ptr id j c, false)
    | false => match h id with
      | some (.box cs) => match boxD (cs.drop (addN j c)) with
        | some ds => some (.d (.ptr ds), true)
        | none => none
      | some (.row sz es) => match Nat.beq sz 1, D.plainL (es.drop (addN j c)) with
        | true, true => some (.d (.ptr (es.drop (addN j c))), true)
        | _, _ => none
      | _ => none
  | .fn f first caps => match lowL ks h first with
    | some (ys, b) => match lowL ks h caps with
      | some (zs, b') => some (mkFn f ys zs, b || b')
      | none => none
    | none => none
  | .iface t x => match low ks h x with
    | some (.d y, b) => some (.d (.iface t y), b)
    | some (y, b) => some (.iface t y, b)
    | none => none
  | .mapr id => match memN ks id with
    | true => some (.mapr id, false)
    | false => match h id with
      | some (.map as bs) => some (.d (.map as bs), true)
      | _ => none
def lowL (ks : List Nat) (h : Hp) : List V → Option (List V × Bool)
  | [] => some ([], false)
  | x :: r => match low ks h x with
    | some (y, b) => match lowL ks h r with
      | some (ys, b') => some (y :: ys, b || b')
      | none => none
    | none => none
end

mutual
/-- It refers to no other blocks than these. -/
def V.inside (ks : List Nat) : V → Bool
  | .undef => true
  | .d _ => true
  | .nils => true
  | .nilx _ => true
  | .agg cs => V.insideL ks cs
  | .tup cs => V.insideL ks cs
  | .ref id _ _ _ => memN ks id
  | .ptr id _ _ => memN ks id
  | .fn _ first caps => V.insideL ks first && V.insideL ks caps
  | .iface _ x => V.inside ks x
  | .mapr id => memN ks id
def V.insideL (ks : List Nat) : List V → Bool
  | [] => true
  | x :: r => V.inside ks x && V.insideL ks r
end

def Blk.inside (ks : List Nat) : Blk → Bool
  | .box cs => V.insideL ks cs
  | _ => true

/-- The part of the heap that is handed in. -/
def partL (h : Hp) : List Nat → Option (List (Nat × Blk))
  | [] => some []
  | k :: r => match h k with
    | some b => match live (some b) with
      | true => match partL h r with
        | some l => some ((k, b) :: l)
        | none => none
      | false => none
    | none => none

def partH (ks : List Nat) (h : Hp) : Hp := fun id => match memN ks id with | true => h id | false => none

theorem partL_eq {h : Hp} : ∀ {ks : List Nat} {l : List (Nat × Blk)}, partL h ks = some l → lk l = partH ks h ∧ ∀ k, memN ks k = true → live (h k) = true
  | [], l, e => by
    simp only [partL, Option.some.injEq] at e
    subst e
    exact ⟨funext fun id => by simp [lk, partH, memN], by simp [memN]⟩
  | k :: r, l, e => by
    simp only [partL] at e
    split at e
    · rename_i b hb
      split at e
      · rename_i hl
        split at e
        · rename_i l' hl'
          simp only [Option.some.injEq] at e
          subst e
          obtain ⟨h1, h2⟩ := partL_eq hl'
          constructor
          · funext id
            simp only [lk, partH, memN]
            cases hk : Nat.beq k id with
            | true => have := beq_eq hk; subst this; exact hb.symm
            | false => simp only; rw [h1]; rfl
          · intro k' hk'
            simp only [memN] at hk'
            cases hk : Nat.beq k k' with
            | true => have := beq_eq hk; subst this; rw [hb]; exact hl
            | false => rw [hk] at hk'; exact h2 k' hk'
        · simp at e
      · simp at e
    · simp at e

theorem simpleL {w : World} {N : Nat → Prop} {ρ : Ren} {h : Hp} : ∀ {cs : List V} {ds : List D} {vs : List Value}, boxD cs = some ds → VRelL w N ρ h cs vs → DRelL w N ds vs
  | [], ds, _, e, r => by
    simp only [boxD, Option.some.injEq] at e
    subst e
    rw [VRelL.nil_iff] at r; subst r; simp [DRelL]
  | x :: cs, ds, _, e, r => by
    rw [VRelL.cons_iff] at r
    obtain ⟨v, q, rfl, h1, h2⟩ := r
    simp only [boxD] at e
    split at e
    · rename_i d hd
      split at e
      · rename_i ds' hds
        simp only [Option.some.injEq] at e
        subst e
        rw [DRelL.cons_iff]
        exact ⟨v, q, rfl, h1.simpleD hd, simpleL hds h2⟩
      · simp at e
    · simp at e

/-- What N' may be: less than the data avoid; and, where something is lent, none of the blocks that aren't handed in. -/
structure Lend (E : Env) (ρ : Ren) (h : Hp) (ks : List Nat) (b : Bool) (N' : Nat → Prop) : Prop where
  less : ∀ b, N' b → E.NN ρ h b
  apart : b = true → ∀ id q, memN ks id = false → live (h id) = true → ρ id = some q → ¬ N' q.b

theorem Lend.left {E : Env} {ρ : Ren} {h : Hp} {ks : List Nat} {b b' : Bool} {N' : Nat → Prop} (l : Lend E ρ h ks (b || b') N') : Lend E ρ h ks b N' ∧ Lend E ρ h ks b' N' :=
  ⟨⟨l.less, fun e => l.apart (by rw [e]; rfl)⟩, ⟨l.less, fun e => l.apart (by rw [e]; cases b <;> rfl)⟩⟩

theorem Lend.keep {E : Env} {ρ : Ren} {h : Hp} {ks : List Nat} {b : Bool} {N' : Nat → Prop} (l : Lend E ρ h ks b N') (w : World) : Keep w w (E.NN ρ h) N' := ⟨Nat.le_refl _, fun _ _ _ => rfl, fun b _ h => l.less b h⟩

theorem partH_ks {ks : List Nat} {h : Hp} {id : Nat} (hm : memN ks id = true) : partH ks h id = h id := by simp [partH, hm]

mutual
theorem low_rel {E : Env} {ρ : Ren} {t : Nat → V} {h : Hp} {a : Act} {w : World} (r : RelAt E ρ t h a w) {ks : List Nat} {N' : Nat → Prop} :
    ∀ (x y : V) (b : Bool) (v : Value), low ks h x = some (y, b) → Lend E ρ h ks b N' → VRel w (E.NN ρ h) ρ h x v → VRel w N' ρ (partH ks h) y v
  | .undef, y, b, v, e, _, _ => by
    simp only [low, Option.some.injEq, Prod.mk.injEq] at e
    obtain ⟨rfl, rfl⟩ := e
    simp only [VRel]
  | .d x, y, b, v, e, l, hv => by
    simp only [low, Option.some.injEq, Prod.mk.injEq] at e
    obtain ⟨rfl, rfl⟩ := e
    simp only [VRel] at hv ⊢
    exact DRel.keep (l.keep w) _ _ hv
  | .nils, y, b, v, e, _, hv => by
    simp only [low, Option.some.injEq, Prod.mk.injEq] at e
    obtain ⟨rfl, rfl⟩ := e
    simpa only [VRel] using hv
  | .nilx _, y, b, v, e, _, hv => by
    simp only [low, Option.some.injEq, Prod.mk.injEq] at e
    obtain ⟨rfl, rfl⟩ := e
    simpa only [VRel] using hv
  | .tup _, y, b, v, e, _, _ => by simp [low] at e
  | .agg cs, y, b, v, e, l, hv => by
    simp only [low] at e
    split at e
    · rename_i ys b' hl
      simp only [Option.some.injEq, Prod.mk.injEq] at e
      obtain ⟨rfl, rfl⟩ := e
      simp only [VRel] at hv
      obtain ⟨arr, rfl, hv⟩ := hv
      exact VRel.mkAgg (lowL_rel r cs ys b' _ hl l hv)
    · simp at e
  | .ref id off len cap, y, b, v, e, l, hv => by
    simp only [low] at e
    split at e
    · rename_i hm
      simp only [Option.some.injEq, Prod.mk.injEq] at e
      obtain ⟨rfl, rfl⟩ := e
      simp only [VRel] at hv ⊢
      rw [partH_ks hm]
      exact hv
    · rename_i hm
      split at e
      · rename_i sz es hk
        simp only [Option.some.injEq, Prod.mk.injEq] at e
        obtain ⟨rfl, rfl⟩ := e
        simp only [VRel] at hv ⊢
        rw [hk] at hv
        obtain ⟨hle, hlen, hcases⟩ := ref_cells r hk hv
        simp only [DRel]
        rcases hcases with ⟨_, ⟨ad, rfl⟩, rfl, h0⟩ | ⟨q, ad, c, vs, hq, rfl, hLc, _, had, _, hcells, hrel⟩
        · exact ⟨ad, 0, 0, rfl, by omega, Nat.le_refl _, .inl (List.eq_nil_of_length_eq_zero (by omega))⟩
        · refine ⟨ad, _, c, rfl, rfl, hLc, ?_⟩
          rcases had with hc0 | rfl
          · exact .inl (List.eq_nil_of_length_eq_zero (by omega))
          · exact .inr ⟨q.b, _, vs, rfl, l.apart rfl id q hm (by rw [hk]; rfl) hq, r.lt id q (by rw [hk]; rfl) hq, hcells, DRelE.keep (l.keep w) _ _ _ hrel⟩
      · simp at e
  | .ptr id j c, y, b, v, e, l, hv => by
    simp only [low] at e
    split at e
    · rename_i hm
      simp only [Option.some.injEq, Prod.mk.injEq] at e
      obtain ⟨rfl, rfl⟩ := e
      simp only [VRel] at hv ⊢
      rw [partH_ks hm]
      exact hv
    · rename_i hm
      split at e
      · rename_i cs hk
        split at e
        · rename_i ds hds
          simp only [Option.some.injEq, Prod.mk.injEq] at e
          obtain ⟨rfl, rfl⟩ := e
          simp only [VRel] at hv ⊢
          rw [hk] at hv
          simp only [PtrRel] at hv
          obtain ⟨q, hq, rfl⟩ := hv
          have hb := r.heap id _ hk
          rw [hq] at hb
          obtain ⟨q', cells, elem, hq', hbk, _, _, hl⟩ := hb
          obtain rfl := Option.some.inj hq'
          have hc := (cellsAt_block hbk).dropTake (j + c) cells.toList.length
          rw [Nat.zero_add, List.take_of_length_le (by simp)] at hc
          rw [addN_eq] at hds
          have hd := simpleL hds (hl.drop (j + c))
          simp only [DRel]
          exact ⟨q.b, j + c, _, rfl, l.apart rfl id q hm (by rw [hk]; rfl) hq, r.lt id q (by rw [hk]; rfl) hq, hc, DRelL.keep (l.keep w) _ _ hd⟩
        · simp at e
      · rename_i sz es hk
        split at e
        · rename_i hsz hpl
          have hsz := beq_eq hsz
          subst hsz
          simp only [Option.some.injEq, Prod.mk.injEq] at e
          obtain ⟨rfl, rfl⟩ := e
          simp only [VRel] at hv ⊢
          rw [hk] at hv
          simp only [PtrRel] at hv
          obtain ⟨q, hq, rfl⟩ := hv
          have hb := r.heap id _ hk
          rw [hq] at hb
          obtain ⟨vs, hc, he⟩ := hb.rowAt
          rw [addN_eq] at hpl ⊢
          have hc2 := hc.dropTake (j + c) vs.length
          rw [List.take_of_length_le (by simp)] at hc2
          have he2 := he.drop (j + c)
          rw [Nat.mul_one] at he2
          have hd := plain_cells hpl he2
          simp only [DRel]
          exact ⟨q.b, q.o + (j + c), _, by rw [Nat.mul_one, Nat.add_assoc], l.apart rfl id q hm (by rw [hk]; rfl) hq, r.lt id q (by rw [hk]; rfl) hq, hc2, DRelL.keep (l.keep w) _ _ hd⟩
        · simp at e
      · simp at e
  | .fn f first caps, y, b, v, e, l, hv => by
    simp only [low] at e
    split at e
    · rename_i ys b1 h1
      split at e
      · rename_i zs b2 h2
        simp only [Option.some.injEq, Prod.mk.injEq] at e
        obtain ⟨rfl, rfl⟩ := e
        simp only [VRel] at hv
        obtain ⟨fs, cs, rfl, r1, r2⟩ := hv
        exact VRel.mkFn (lowL_rel r first ys b1 _ h1 l.left.1 r1) (lowL_rel r caps zs b2 _ h2 l.left.2 r2)
      · simp at e
    · simp at e
  | .iface t x, y, b, v, e, l, hv => by
    simp only [low] at e
    split at e
    · rename_i z b1 h1
      simp only [Option.some.injEq, Prod.mk.injEq] at e
      obtain ⟨rfl, rfl⟩ := e
      simp only [VRel] at hv
      obtain ⟨u, rfl, hv⟩ := hv
      have := low_rel r x _ _ u h1 l hv
      simp only [VRel, DRel] at this ⊢
      exact ⟨u, rfl, this⟩
    · rename_i z b1 _ h1
      simp only [Option.some.injEq, Prod.mk.injEq] at e
      obtain ⟨rfl, rfl⟩ := e
      simp only [VRel] at hv ⊢
      obtain ⟨u, rfl, hv⟩ := hv
      exact ⟨u, rfl, low_rel r x _ _ u h1 l hv⟩
    · simp at e
  | .mapr id, y, b, v, e, l, hv => by
    simp only [low] at e
    split at e
    · rename_i hm
      simp only [Option.some.injEq, Prod.mk.injEq] at e
      obtain ⟨rfl, rfl⟩ := e
      simp only [VRel] at hv ⊢
      rw [partH_ks hm]
      exact hv
    · rename_i hm
      split at e
      · rename_i as bs hk
        simp only [Option.some.injEq, Prod.mk.injEq] at e
        obtain ⟨rfl, rfl⟩ := e
        simp only [VRel] at hv ⊢
        rw [hk] at hv
        simp only [MapRel] at hv
        obtain ⟨q, hq, rfl⟩ := hv
        have hb := r.heap id _ hk
        rw [hq] at hb
        obtain ⟨q', es, clock, hq', _, hbk, h1, h2⟩ := hb
        obtain rfl := Option.some.inj hq'
        simp only [DRel]
        exact ⟨q.b, es, clock, rfl, l.apart rfl id q hm (by rw [hk]; rfl) hq, r.lt id q (by rw [hk]; rfl) hq, hbk, DRelL.keep (l.keep w) _ _ h1, DRelL.keep (l.keep w) _ _ h2⟩
      · simp at e
theorem lowL_rel {E : Env} {ρ : Ren} {t : Nat → V} {h : Hp} {a : Act} {w : World} (r : RelAt E ρ t h a w) {ks : List Nat} {N' : Nat → Prop} :
    ∀ (xs ys : List V) (b : Bool) (vs : List Value), lowL ks h xs = some (ys, b) → Lend E ρ h ks b N' → VRelL w (E.NN ρ h) ρ h xs vs → VRelL w N' ρ (partH ks h) ys vs
  | [], ys, b, vs, e, _, hv => by
    simp only [lowL, Option.some.injEq, Prod.mk.injEq] at e
    obtain ⟨rfl, rfl⟩ := e
    simpa only [VRelL] using hv
  | x :: xs, ys, b, vs, e, l, hv => by
    simp only [lowL] at e
    split at e
    · rename_i y b1 h1
      split at e
      · rename_i zs b2 h2
        simp only [Option.some.injEq, Prod.mk.injEq] at e
        obtain ⟨rfl, rfl⟩ := e
        simp only [VRelL] at hv ⊢
        obtain ⟨v, q, rfl, r1, r2⟩ := hv
        exact ⟨v, q, rfl, low_rel r x y b1 v h1 l.left.1 r1, lowL_rel r xs zs b2 q h2 l.left.2 r2⟩
      · simp at e
    · simp at e
end

end Go.Own
