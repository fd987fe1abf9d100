/-
The call of a function by its contract.
-/
import Derived.Test.YtlaohcpkecmhnaaOwnCall

set_option linter.all false

namespace Go.Own
open Go (Value IntKind BinOp UnOp TypeId FuncId)

variable {P : Program}

/-- The function's own blocks behind a call. -/
def behindH (h : Hp) (ks : List Nat) (hout : List (Nat × Blk)) : Hp := fun id => match lk hout id with
  | some k => some k
  | none => match memN ks id with
    | true => some .dead
    | false => h id

def behindR (ρ ρ' : Ren) (hout : List (Nat × Blk)) : Ren := fun id => match lk hout id with
  | some _ => ρ' id
  | none => ρ id

/-- New blocks of a call are new. -/
def freshOut (h : Hp) (ks : List Nat) : List (Nat × Blk) → Bool
  | [] => true
  | (k, _) :: r => (memN ks k || (h k).isNone) && freshOut h ks r

theorem freshOut_lk {h : Hp} {ks : List Nat} : ∀ {hout : List (Nat × Blk)}, freshOut h ks hout = true → ∀ id k, lk hout id = some k → memN ks id = true ∨ h id = none
  | [], _, id, k, e => by simp [lk] at e
  | (j, b) :: r, hf, id, k, e => by
    simp only [freshOut, Bool.and_eq_true, Bool.or_eq_true] at hf
    simp only [lk] at e
    split at e
    · rename_i hj
      have := beq_eq hj
      subst this
      rcases hf.1 with h1 | h1
      · exact .inl h1
      · right; cases hh : h j with
        | none => rfl
        | some x => rw [hh] at h1; simp at h1
    · exact freshOut_lk hf.2 id k e

theorem RelAt.behind {E : Env} {ρ : Ren} {t : Nat → V} {h : Hp} {a : Act} {w w' : World} (r : RelAt E ρ t h a w) {ks : List Nat} {hin hout : List (Nat × Blk)} (hp : partL h ks = some hin) (hfr : freshOut h ks hout = true)
    {N0 : Nat → Prop} {ρ' : Ren} (b : Bool) (hN : b = false → ∀ x, E.NN ρ h x → ¬ Mine ρ (lk hin) x → N0 x) (hflat : b = true → ∀ p ∈ hout, FlatB p.2) (hb : Behind w w' N0 ρ ρ' (lk hin) (lk hout)) :
    RelAt E (behindR ρ ρ' hout) t (behindH h ks hout) a w' ∧
    (∀ (x : V) (v : Value), (b = true → x.flat = true) → VRel w' (fun b => N0 b ∨ Mine ρ' (lk hout) b) ρ' (lk hout) x v → VRel w' (E.NN (behindR ρ ρ' hout) (behindH h ks hout)) (behindR ρ ρ' hout) (behindH h ks hout) x v) := by
  obtain ⟨hpart, hks⟩ := partL_eq hp
  have hin_eq : ∀ id, memN ks id = true → lk hin id = h id := fun id hm => by rw [hpart]; simp [partH, hm]
  have hin_none : ∀ id, memN ks id = false → lk hin id = none := fun id hm => by rw [hpart]; simp [partH, hm]
  have mine_part : ∀ x, Mine ρ (lk hin) x → Mine ρ h x := by
    rintro x ⟨id, q, hl, hq, rfl⟩
    cases hm : memN ks id with
    | true => rw [hin_eq id hm] at hl; exact ⟨id, q, hl, hq, rfl⟩
    | false => rw [hin_none id hm] at hl; simp [live] at hl
  have fresh := fun id k => freshOut_lk hfr id k
  -- the cases of a block behind the call
  have cases_h : ∀ id, (∃ k, lk hout id = some k ∧ behindH h ks hout id = some k ∧ behindR ρ ρ' hout id = ρ' id) ∨
      (lk hout id = none ∧ memN ks id = true ∧ behindH h ks hout id = some .dead ∧ behindR ρ ρ' hout id = ρ id) ∨
      (lk hout id = none ∧ memN ks id = false ∧ behindH h ks hout id = h id ∧ behindR ρ ρ' hout id = ρ id) := by
    intro id
    unfold behindH behindR
    cases hk : lk hout id with
    | some k => exact .inl ⟨k, rfl, rfl, rfl⟩
    | none => cases hm : memN ks id with
      | true => exact .inr (.inl ⟨rfl, rfl, rfl, rfl⟩)
      | false => exact .inr (.inr ⟨rfl, rfl, rfl, rfl⟩)
  have not_part : ∀ id q, memN ks id = false → live (h id) = true → ρ id = some q → ¬ Mine ρ (lk hin) q.b := by
    rintro id q hm hl hq ⟨j, p, hj, hpj, hpe⟩
    cases hmj : memN ks j with
    | false => rw [hin_none j hmj] at hj; simp [live] at hj
    | true =>
      rw [hin_eq j hmj] at hj
      have := r.inj j id p q hj hl hpj hq hpe
      subst this
      rw [hmj] at hm; cases hm
  have not_mine : ∀ x, E.N0 x → ¬ Mine ρ h x := by
    rintro x hx ⟨id, q, hl, hq, rfl⟩
    rcases r.mine id q hl hq with h1 | h1
    · have := E.low _ hx; omega
    · exact E.apart _ hx h1
  have mine_new : ∀ x, Mine (behindR ρ ρ' hout) (behindH h ks hout) x → Mine ρ' (lk hout) x ∨ (Mine ρ h x ∧ ¬ Mine ρ (lk hin) x) := by
    rintro x ⟨id, q, hl, hq, rfl⟩
    rcases cases_h id with ⟨k, h1, h2, h3⟩ | ⟨h1, h2, h3, h4⟩ | ⟨h1, h2, h3, h4⟩
    · rw [h2] at hl; rw [h3] at hq; exact .inl ⟨id, q, by rw [h1]; exact hl, hq, rfl⟩
    · rw [h3] at hl; simp [live] at hl
    · rw [h3] at hl; rw [h4] at hq; exact .inr ⟨⟨id, q, hl, hq, rfl⟩, not_part id q h2 hl hq⟩
  -- how what the callee tells is read here
  have keepV : b = false → KeepV w' w' (fun b => N0 b ∨ Mine ρ' (lk hout) b) (E.NN (behindR ρ ρ' hout) (behindH h ks hout)) ρ' (behindR ρ ρ' hout) (lk hout) (behindH h ks hout) := by
    intro hbf
    refine ⟨⟨Nat.le_refl _, fun _ _ _ => rfl, fun x _ hx => ?_⟩, fun id => ?_, fun id hl _ => ?_⟩
    · rcases hx with hx | hx
      · exact .inl (hN hbf x (.inl hx) (fun hm => not_mine x hx (mine_part x hm)))
      · rcases mine_new x hx with h1 | h1
        · exact .inr h1
        · exact .inl (hN hbf x (.inr h1.1) h1.2)
    · rcases cases_h id with ⟨k, h1, h2, h3⟩ | ⟨h1, _⟩ | ⟨h1, _⟩
      · rw [h1, h2]; exact BlkLe.refl _
      · rw [h1]; trivial
      · rw [h1]; trivial
    · rcases cases_h id with ⟨k, h1, h2, h3⟩ | ⟨h1, _⟩ | ⟨h1, _⟩
      · exact h3
      · rw [h1] at hl; simp [live] at hl
      · rw [h1] at hl; simp [live] at hl
  have keepF : KeepV w' w' (fun _ => False) (fun _ => False) ρ' (behindR ρ ρ' hout) (lk hout) (behindH h ks hout) := by
    refine ⟨⟨Nat.le_refl _, fun _ _ _ => rfl, fun x _ hx => hx⟩, fun id => ?_, fun id hl _ => ?_⟩
    · rcases cases_h id with ⟨k, h1, h2, h3⟩ | ⟨h1, _⟩ | ⟨h1, _⟩
      · rw [h1, h2]; exact BlkLe.refl _
      · rw [h1]; trivial
      · rw [h1]; trivial
    · rcases cases_h id with ⟨k, h1, h2, h3⟩ | ⟨h1, _⟩ | ⟨h1, _⟩
      · exact h3
      · rw [h1] at hl; simp [live] at hl
      · rw [h1] at hl; simp [live] at hl
  have readV : ∀ (x : V) (v : Value), (b = true → x.flat = true) → VRel w' (fun b => N0 b ∨ Mine ρ' (lk hout) b) ρ' (lk hout) x v → VRel w' (E.NN (behindR ρ ρ' hout) (behindH h ks hout)) (behindR ρ ρ' hout) (behindH h ks hout) x v := by
    intro x v hf hv
    cases b with
    | false => exact VRel.keep (keepV rfl) x v hv
    | true => exact VRel.flat x v (hf rfl) (VRel.keep keepF x v (VRel.flat x v (hf rfl) hv))
  have readB : ∀ (p : Option Pl) (k : Blk), (b = true → FlatB k) → BlkRel w' (fun b => N0 b ∨ Mine ρ' (lk hout) b) ρ' (lk hout) p k → BlkRel w' (E.NN (behindR ρ ρ' hout) (behindH h ks hout)) (behindR ρ ρ' hout) (behindH h ks hout) p k := by
    intro p k hf hv
    cases b with
    | false => exact hv.keep (keepV rfl) (fun _ _ => rfl)
    | true => exact ((hv.flat (N' := fun _ => False) (hf rfl)).keep keepF (fun _ _ => rfl)).flat (hf rfl)
  refine ⟨(r.step hb.size (fun x hx hm => hb.frame x hx (fun h1 => hm (mine_part x h1))) (fun id => ?_) (fun id hl hl' => ?_) (fun id q hl hq => ?_) (fun id id' q q' hl hl' hq hq' he => ?_) (fun k id blk hid => ?_) hb.os hb.tape hb.output hb.drawn).1, readV⟩
  · rcases cases_h id with ⟨k, h1, h2, h3⟩ | ⟨h1, h2, h3, h4⟩ | ⟨h1, h2, h3, h4⟩
    · rw [h2]
      rcases fresh id k h1 with hm | hn
      · have hlv := hks id hm
        by_cases hd : live (some k) = true
        · have := (hb.blk id (by rw [hin_eq id hm]; exact hlv) (by rw [h1]; exact hd)).2
          rw [hin_eq id hm, h1] at this
          exact this
        · have : k = .dead := by cases k <;> simp [live] at hd <;> rfl
          subst this
          cases hh : h id with
          | none => trivial
          | some x => cases x <;> simp [BlkLe]
      · rw [hn]; trivial
    · rw [h3]
      cases hh : h id with
      | none => trivial
      | some x => cases x <;> simp [BlkLe]
    · rw [h3]; exact BlkLe.refl _
  · rcases cases_h id with ⟨k, h1, h2, h3⟩ | ⟨h1, h2, h3, h4⟩ | ⟨h1, h2, h3, h4⟩
    · rw [h3]
      rcases fresh id k h1 with hm | hn
      · exact (hb.blk id (by rw [hin_eq id hm]; exact hl) (by rw [h1]; rw [h2] at hl'; exact hl')).1
      · rw [hn] at hl; simp [live] at hl
    · exact h4
    · exact h4
  · rcases cases_h id with ⟨k, h1, h2, h3⟩ | ⟨h1, h2, h3, h4⟩ | ⟨h1, h2, h3, h4⟩
    · rw [h2] at hl; rw [h3] at hq
      refine ⟨hb.lies.lt id q (by rw [h1]; exact hl) hq, ?_⟩
      rcases hb.new id q (by rw [h1]; exact hl) hq with hn | hn
      · exact .inl hn
      · exact .inr (mine_part _ hn)
    · rw [h3] at hl; simp [live] at hl
    · rw [h3] at hl; rw [h4] at hq
      exact ⟨Nat.lt_of_lt_of_le (r.lt id q hl hq) hb.size, .inr ⟨id, q, hl, hq, rfl⟩⟩
  · have cross : ∀ id id' q q' k, lk hout id = some k → live (some k) = true → ρ' id = some q → memN ks id' = false → live (h id') = true → ρ id' = some q' → q.b ≠ q'.b := by
      intro id id' q q' k h1 hl hq hm' hl' hq' he
      rcases hb.new id q (by rw [h1]; exact hl) hq with hn | ⟨j, p, hj, hpj, hpe⟩
      · have := r.lt id' q' hl' hq'; omega
      · cases hmj : memN ks j with
        | false => rw [hin_none j hmj] at hj; simp [live] at hj
        | true =>
          rw [hin_eq j hmj] at hj
          have := r.inj j id' p q' hj hl' hpj hq' (by rw [hpe, he])
          subst this
          rw [hmj] at hm'; cases hm'
    rcases cases_h id with ⟨k, h1, h2, h3⟩ | ⟨h1, h2, h3, h4⟩ | ⟨h1, h2, h3, h4⟩
    · rw [h2] at hl; rw [h3] at hq
      rcases cases_h id' with ⟨k', g1, g2, g3⟩ | ⟨g1, g2, g3, g4⟩ | ⟨g1, g2, g3, g4⟩
      · rw [g2] at hl'; rw [g3] at hq'
        exact hb.lies.inj id id' q q' (by rw [h1]; exact hl) (by rw [g1]; exact hl') hq hq' he
      · rw [g3] at hl'; simp [live] at hl'
      · rw [g3] at hl'; rw [g4] at hq'
        exact absurd he (cross id id' q q' k h1 hl hq g2 hl' hq')
    · rw [h3] at hl; simp [live] at hl
    · rw [h3] at hl; rw [h4] at hq
      rcases cases_h id' with ⟨k', g1, g2, g3⟩ | ⟨g1, g2, g3, g4⟩ | ⟨g1, g2, g3, g4⟩
      · rw [g2] at hl'; rw [g3] at hq'
        exact absurd he.symm (cross id' id q' q k' g1 hl' hq' h2 hl hq)
      · rw [g3] at hl'; simp [live] at hl'
      · rw [g3] at hl'; rw [g4] at hq'
        exact r.inj id id' q q' hl hl' hq hq' he
  · rcases cases_h id with ⟨k', h1, h2, h3⟩ | ⟨h1, h2, h3, h4⟩ | ⟨h1, h2, h3, h4⟩
    · rw [h2] at hid
      obtain rfl := Option.some.inj hid
      rw [h3]
      refine readB _ _ (fun hbt => ?_) (hb.lies.heap id _ h1)
      have hmem : ∀ (l : List (Nat × Blk)), (∀ p ∈ l, FlatB p.2) → ∀ x, lk l id = some x → FlatB x := by
        intro l
        induction l with
        | nil => intro _ x hx; simp [lk] at hx
        | cons p l ih =>
          intro hl x hx
          obtain ⟨j, y⟩ := p
          simp only [lk] at hx
          split at hx
          · obtain rfl := Option.some.inj hx
            exact hl (j, y) (by simp)
          · exact ih (fun p hp => hl p (by simp [hp])) x hx
      exact hmem hout (hflat hbt) _ h1
    · rw [h3] at hid
      obtain rfl := Option.some.inj hid
      trivial
    · rw [h3] at hid
      rw [h4]
      refine r.others hid k (fun q hq hl => hb.frame q.b (r.lt id q hl hq) ?_)
      rintro ⟨j, p, hj, hpj, hpe⟩
      cases hmj : memN ks j with
      | false => rw [hin_none j hmj] at hj; simp [live] at hj
      | true =>
        rw [hin_eq j hmj] at hj
        have := r.inj j id p q hj hl hpj hq hpe
        subst this
        rw [hmj] at h2; cases h2

mutual
theorem inside_rel {E : Env} {ρ : Ren} {h : Hp} {w : World} {ks : List Nat} {N' : Nat → Prop} (hl : ∀ b, N' b → E.NN ρ h b) : ∀ (x : V) (v : Value), x.inside ks = true → VRel w (E.NN ρ h) ρ h x v → VRel w N' ρ (partH ks h) x v
  | .undef, _, _, _ => by simp only [VRel]
  | .d x, v, _, r => by simp only [VRel] at r ⊢; exact DRel.keep ⟨Nat.le_refl _, fun _ _ _ => rfl, fun b _ => hl b⟩ _ _ r
  | .nils, _, _, r => by simpa only [VRel] using r
  | .nilx _, _, _, r => by simpa only [VRel] using r
  | .agg cs, v, hi, r => by
    simp only [VRel, V.inside] at *
    obtain ⟨a, rfl, r⟩ := r
    exact ⟨a, rfl, insideL_rel hl cs _ hi r⟩
  | .tup cs, v, hi, r => by
    simp only [VRel, V.inside] at *
    obtain ⟨a, rfl, r⟩ := r
    exact ⟨a, rfl, insideL_rel hl cs _ hi r⟩
  | .ref id off len cap, v, hi, r => by
    simp only [VRel, V.inside] at *
    rw [partH_ks hi]; exact r
  | .ptr id j c, v, hi, r => by
    simp only [VRel, V.inside] at *
    rw [partH_ks hi]; exact r
  | .fn f first caps, v, hi, r => by
    simp only [VRel, V.inside, Bool.and_eq_true] at *
    obtain ⟨fs, cs, rfl, r1, r2⟩ := r
    exact ⟨fs, cs, rfl, insideL_rel hl _ _ hi.1 r1, insideL_rel hl _ _ hi.2 r2⟩
  | .iface t x, v, hi, r => by
    simp only [VRel, V.inside] at *
    obtain ⟨u, rfl, r⟩ := r
    exact ⟨u, rfl, inside_rel hl x u hi r⟩
  | .mapr id, v, hi, r => by
    simp only [VRel, V.inside] at *
    rw [partH_ks hi]; exact r
theorem insideL_rel {E : Env} {ρ : Ren} {h : Hp} {w : World} {ks : List Nat} {N' : Nat → Prop} (hl : ∀ b, N' b → E.NN ρ h b) : ∀ (xs : List V) (vs : List Value), V.insideL ks xs = true → VRelL w (E.NN ρ h) ρ h xs vs → VRelL w N' ρ (partH ks h) xs vs
  | [], _, _, r => by simpa only [VRelL] using r
  | x :: xs, vs, hi, r => by
    simp only [VRelL, V.insideL, Bool.and_eq_true] at *
    obtain ⟨v, q, rfl, r1, r2⟩ := r
    exact ⟨v, q, rfl, inside_rel hl x v hi.1 r1, insideL_rel hl xs q hi.2 r2⟩
end

def allInside (ks : List Nat) : List (Nat × Blk) → Bool
  | [] => true
  | p :: r => p.2.inside ks && allInside ks r

theorem allInside_lk {ks : List Nat} : ∀ {l : List (Nat × Blk)}, allInside ks l = true → ∀ id k, lk l id = some k → k.inside ks = true
  | [], _, id, k, e => by simp [lk] at e
  | (j, b) :: r, hf, id, k, e => by
    simp only [allInside, Bool.and_eq_true] at hf
    simp only [lk] at e
    split at e
    · obtain rfl := Option.some.inj e
      exact hf.1
    · exact allInside_lk hf.2 id k e

/-! ### The operation -/
def callee : V → Option (FuncId × List V × List V)
  | .d (.fn (.func f) first caps) => some (f, first.map V.d, caps.map V.d)
  | .fn (.func f) first caps => some (f, first, caps)
  | _ => none

theorem run_call {op : Oper} {f : Operand} {args : Array Operand} {tys : Array TypeId} (ho : op.op = .call { callee := .value f, args := args, argTypes := tys }) (a : Act) (w : World) {g : FuncId} {first caps : Array Value} (hf : a.eval f = .func (.func g) first caps) :
    (execOp a.eval op).run P w = (callFunc g (first ++ args.map a.eval ++ caps)).run P w := by
  unfold execOp
  simp only [ho, resolve, hf, Deferred.ofValue, Sem.run_bind, Sem.run_pure, Result.andThen_ok, invoke]

theorem callee_rel {w : World} {N : Nat → Prop} {ρ : Ren} {h : Hp} {x : V} {v : Value} {f : FuncId} {first caps : List V} (hc : callee x = some (f, first, caps)) (hv : VRel w N ρ h x v) :
    ∃ fs cs : Array Value, v = .func (.func f) fs cs ∧ VRelL w N ρ h first fs.toList ∧ VRelL w N ρ h caps cs.toList := by
  unfold callee at hc
  split at hc
  · simp only [Option.some.injEq, Prod.mk.injEq] at hc
    obtain ⟨rfl, rfl, rfl⟩ := hc
    simp only [VRel, DRel] at hv
    obtain ⟨fs, cs, rfl, h1, h2⟩ := hv
    exact ⟨fs, cs, rfl, VRelL.of_data h1, VRelL.of_data h2⟩
  · simp only [Option.some.injEq, Prod.mk.injEq] at hc
    obtain ⟨rfl, rfl, rfl⟩ := hc
    simp only [VRel] at hv
    obtain ⟨fs, cs, rfl, h1, h2⟩ := hv
    exact ⟨fs, cs, rfl, h1, h2⟩
  · simp at hc

/-- A call by a contract. -/
def aCall (P : Program) (h : Hp) (o : CallO) (f : V) (args : List V) : Option (V × List Prop) :=
  match callee f with
  | none => none
  | some (g, first, caps) => match o.pure with
    | true => some (o.res, [PureOk P g (first ++ args ++ caps) o.res])
    | false => match lowL o.hin h (first ++ args ++ caps) with
      | some (ys, b) => match partL h o.hin with
        | some hin => match freshOut h o.hin o.hout, allInside o.hin hin with
          | true, true => match b with
            | true => some (o.res, [FnOk P g ys hin (.ret o.res) o.hout, FlatOut o.res o.hout])
            | false => some (o.res, [FnOk P g ys hin (.ret o.res) o.hout])
          | _, _ => none
        | none => none
      | none => none

theorem Lend.mk' {E : Env} {ρ : Ren} {t : Nat → V} {h : Hp} {a : Act} {w : World} (r : RelAt E ρ t h a w) {ks : List Nat} {hin : List (Nat × Blk)} (hp : partL h ks = some hin) :
    Lend E ρ h ks false (fun b => (E.NN ρ h b ∧ ¬ Mine ρ (lk hin) b) ∨ Mine ρ (lk hin) b) ∧ Lend E ρ h ks true (fun b => False ∨ Mine ρ (lk hin) b) := by
  obtain ⟨hpart, hks⟩ := partL_eq hp
  have mine_part : ∀ x, Mine ρ (lk hin) x → ∃ id q, memN ks id = true ∧ live (h id) = true ∧ ρ id = some q ∧ q.b = x := by
    rintro x ⟨id, q, hl, hq, rfl⟩
    rw [hpart] at hl
    cases hm : memN ks id with
    | true => exact ⟨id, q, hm, hks id hm, hq, rfl⟩
    | false => simp [partH, hm, live] at hl
  refine ⟨⟨fun b hb => ?_, fun e => by cases e⟩, ⟨fun b hb => ?_, fun _ id q hm hl hq hb => ?_⟩⟩
  · rcases hb with hb | hb
    · exact hb.1
    · obtain ⟨id, q, _, hl, hq, rfl⟩ := mine_part b hb
      exact .inr ⟨id, q, hl, hq, rfl⟩
  · rcases hb with hb | hb
    · exact hb.elim
    · obtain ⟨id, q, _, hl, hq, rfl⟩ := mine_part b hb
      exact .inr ⟨id, q, hl, hq, rfl⟩
  · rcases hb with hb | hb
    · exact hb
    · obtain ⟨j, p, hmj, hlj, hpj, hpe⟩ := mine_part _ hb
      have := r.inj j id p q hlj hl hpj hq hpe
      subst this
      rw [hmj] at hm; cases hm

/-- The contract, met at a call: whatever comes of it. -/
theorem call_meets {E : Env} {ρ : Ren} {t : Nat → V} {h : Hp} {a : Act} {w : World} (r : RelAt E ρ t h a w) {ks : List Nat} {hin hout : List (Nat × Blk)} {xs ys : List V} {b : Bool} {vs : Array Value} {g : FuncId} {out : Out}
    (hlow : lowL ks h xs = some (ys, b)) (hp : partL h ks = some hin) (hins : allInside ks hin = true) (hfr : freshOut h ks hout = true) (hvs : VRelL w (E.NN ρ h) ρ h xs vs.toList) (hfn : FnOk P g ys hin out hout) (hflat : b = true → ∀ p ∈ hout, FlatB p.2)
    (hflatx : b = true → match out with | .ret x => x.flat = true | .pan x => x.flat = true) :
    Calls P g vs w fun e w' => ∃ ρ', RelAt E ρ' t (behindH h ks hout) a w' ∧ OutRel w' (E.NN ρ' (behindH h ks hout)) ρ' (behindH h ks hout) out e := by
  obtain ⟨l1, l2⟩ := Lend.mk' r hp
  obtain ⟨hpart, hks⟩ := partL_eq hp
  have key : ∀ N0 : Nat → Prop, (∀ b, N0 b → b < w.heap.size) → (∀ b, N0 b → ¬ Mine ρ (lk hin) b) → Lend E ρ h ks b (fun b => N0 b ∨ Mine ρ (lk hin) b) → (b = false → ∀ x, E.NN ρ h x → ¬ Mine ρ (lk hin) x → N0 x) →
      Calls P g vs w fun e w' => ∃ ρ', RelAt E ρ' t (behindH h ks hout) a w' ∧ OutRel w' (E.NN ρ' (behindH h ks hout)) ρ' (behindH h ks hout) out e := by
    intro N0 hlow0 hap0 hl hN
    have hargs := lowL_rel r xs ys b _ hlow hl hvs
    rw [← hpart] at hargs
    have hlies : Lies w (fun b => N0 b ∨ Mine ρ (lk hin) b) ρ (lk hin) := by
      refine ⟨fun id k hk => ?_, fun id id' q q' hli hli' hq hq' he => ?_, fun id q hli hq => ?_⟩
      · rw [hpart] at hk
        cases hm : memN ks id with
        | false => simp [partH, hm] at hk
        | true =>
          simp only [partH, hm] at hk
          have hrel := r.heap id k hk
          have hi : k.inside ks = true := allInside_lk hins id k (by rw [hpart]; simp [partH, hm, hk])
          cases k with
          | dead => trivial
          | box cs =>
            obtain ⟨q, cells, elem, h1, h2, h3, h4, h5⟩ := hrel
            rw [hpart]
            exact ⟨q, cells, elem, h1, h2, h3, h4, insideL_rel (fun b hb => hl.less b (by rw [hpart]; exact hb)) cs _ hi h5⟩
          | row sz es =>
            rcases hrel with h1 | ⟨q, cells, elem, pre, vs', post, h1, h2, h3, h4, h5, h6⟩
            · exact .inl h1
            · exact .inr ⟨q, cells, elem, pre, vs', post, h1, h2, h3, h4, h5, DRelE.keep (hl.keep w) _ _ _ h6⟩
          | map as bs =>
            obtain ⟨q, es, clock, h1, h2, h3, h4, h5⟩ := hrel
            exact ⟨q, es, clock, h1, h2, h3, DRelL.keep (hl.keep w) _ _ h4, DRelL.keep (hl.keep w) _ _ h5⟩
      · have h1 : live (h id) = true := by
          rw [hpart] at hli
          cases hm : memN ks id with
          | false => simp [partH, hm, live] at hli
          | true => exact hks id hm
        have h2 : live (h id') = true := by
          rw [hpart] at hli'
          cases hm : memN ks id' with
          | false => simp [partH, hm, live] at hli'
          | true => exact hks id' hm
        exact r.inj id id' q q' h1 h2 hq hq' he
      · have h1 : live (h id) = true := by
          rw [hpart] at hli
          cases hm : memN ks id with
          | false => simp [partH, hm, live] at hli
          | true => exact hks id hm
        exact r.lt id q h1 hq
    refine (hfn.2 w N0 ρ vs hlow0 hap0 hargs hlies).mono ?_
    rintro e w' ⟨ρ', hout', hbehind⟩
    obtain ⟨h1, h2⟩ := r.behind hp hfr b hN hflat hbehind
    refine ⟨_, h1, ?_⟩
    cases out with
    | ret x =>
      cases e with
      | returned v => exact h2 x v hflatx hout'
      | panicked c => exact hout'
      | outgrown => exact hout'
    | pan x =>
      cases e with
      | returned v => exact hout'
      | panicked c =>
        obtain ⟨v, rfl, hv⟩ := hout'
        exact ⟨v, rfl, h2 x v hflatx hv⟩
      | outgrown => exact hout'
  cases b with
  | false =>
    refine key (fun b => E.NN ρ h b ∧ ¬ Mine ρ (lk hin) b) (fun b hb => ?_) (fun b hb => hb.2) l1 (fun _ x hx hm => ⟨hx, hm⟩)
    rcases hb.1 with hb | ⟨id, q, hl, hq, rfl⟩
    · exact Nat.lt_of_lt_of_le (E.low b hb) r.grown
    · exact r.lt id q hl hq
  | true => exact key (fun _ => False) (fun b hb => hb.elim) (fun b hb => hb.elim) l2 (fun e => by cases e)

theorem VRelL.args {E : Env} {ρ : Ren} {t : Nat → V} {h : Hp} {a : Act} {w : World} (r : RelAt E ρ t h a w) {first caps : List V} {fs cs : Array Value} (args : Array Operand) (h1 : VRelL w (E.NN ρ h) ρ h first fs.toList) (h2 : VRelL w (E.NN ρ h) ρ h caps cs.toList) :
    VRelL w (E.NN ρ h) ρ h (first ++ args.toList.map (evalV t) ++ caps) (fs ++ args.map a.eval ++ cs).toList := by
  simp only [Array.toList_append, Array.toList_map]
  exact (h1.append (VRelL.map_eval r _)).append h2

theorem StepsW.call {op : Oper} {f : Operand} {args : Array Operand} {tys : Array TypeId} (ho : op.op = .call { callee := .value f, args := args, argTypes := tys }) {o : CallO} {t : Nat → V} {h : Hp} {x : V} {p : List Prop}
    (ha : aCall P h o (evalV t f) (args.toList.map (evalV t)) = some (x, p)) (hp : AllP p) : StepsW P op t h x (match o.pure with | true => h | false => behindH h o.hin o.hout) := by
  intro E ρ a w r K Q hK
  have hf := r.eval f
  unfold aCall at ha
  split at ha
  · simp at ha
  rename_i g first caps hc
  obtain ⟨fs, cs, hfv, hfs, hcs⟩ := callee_rel hc hf
  have hargs := VRelL.args r args hfs hcs
  have hrun := run_call (P := P) ho a w hfv
  unfold Oper.wp
  rw [hrun]
  split at ha
  · rename_i hpure
    rw [hpure] at hK
    simp only [Option.some.injEq, Prod.mk.injEq] at ha
    obtain ⟨rfl, rfl⟩ := ha
    obtain ⟨v, hv, hr⟩ := hp.1 w (E.NN ρ h) ρ h _ hargs
    rw [hv]
    exact hK ρ v w r hr
  · rename_i hpure
    rw [hpure] at hK
    split at ha
    case h_2 => simp at ha
    rename_i ys b hlow
    split at ha
    case h_2 => simp at ha
    rename_i hin hpart
    split at ha
    case h_2 => simp at ha
    rename_i hfr hins
    have fin : FnOk P g ys hin (.ret o.res) o.hout → (b = true → FlatOut o.res o.hout) → o.res = x → Oper.upon P op a K Q ((callFunc g (fs ++ args.map a.eval ++ cs)).run P w) := by
      intro hfn hflat hx
      have hm := call_meets r hlow hpart hins hfr hargs hfn (fun hb => (hflat hb).2) (fun hb => (hflat hb).1)
      rw [hfn.1]
      refine hm.mono ?_
      rintro e w' ⟨ρ', hr, hout⟩
      cases e with
      | returned v => exact hK ρ' v w' hr (hx ▸ hout)
      | panicked c => exact hout.elim
      | outgrown => exact hout.elim
    split at ha
    · simp only [Option.some.injEq, Prod.mk.injEq] at ha
      obtain ⟨rfl, rfl⟩ := ha
      exact fin hp.1 (fun _ => hp.2.1) rfl
    · simp only [Option.some.injEq, Prod.mk.injEq] at ha
      obtain ⟨rfl, rfl⟩ := ha
      exact fin hp.1 (fun hb => by cases hb) rfl

end Go.Own
