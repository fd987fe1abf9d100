/-
A contract holds for blocks of any other names.
-/
import Derived.Test.YtlaohcpkecmhnaaOwnWay

set_option linter.all false

namespace Go.Own
open Go (Value IntKind BinOp UnOp TypeId FuncId)

variable {P : Program}

mutual
def renV (π : Nat → Nat) : V → V
  | .undef => .undef
  | .d x => .d x
  | .agg cs => .agg (renL π cs)
  | .tup vs => .tup (renL π vs)
  | .nils => .nils
  | .ref id off len cap => .ref (π id) off len cap
  | .ptr id j c => .ptr (π id) j c
  | .fn f first caps => .fn f (renL π first) (renL π caps)
  | .iface t x => .iface t (renV π x)
  | .mapr id => .mapr (π id)
  | .nilx b => .nilx b
def renL (π : Nat → Nat) : List V → List V
  | [] => []
  | x :: xs => renV π x :: renL π xs
end

def renB (π : Nat → Nat) : Blk → Blk
  | .box cs => .box (renL π cs)
  | .row sz es => .row sz es
  | .dead => .dead
  | .map ks vs => .map ks vs

def renH (π : Nat → Nat) : List (Nat × Blk) → List (Nat × Blk)
  | [] => []
  | (id, b) :: r => (π id, renB π b) :: renH π r

def Out.ren (π : Nat → Nat) : Out → Out
  | .ret x => .ret (renV π x)
  | .pan x => .pan (renV π x)

theorem live_ren (π : Nat → Nat) (k : Option Blk) : live (k.map (renB π)) = live k := by
  cases k with
  | none => rfl
  | some k => cases k <;> rfl

theorem lk_ren {π : Nat → Nat} (hi : ∀ a b, π a = π b → a = b) : ∀ (h : List (Nat × Blk)) (id : Nat), lk (renH π h) (π id) = (lk h id).map (renB π)
  | [], _ => rfl
  | (k, b) :: r, id => by
    simp only [renH, lk]
    cases e : Nat.beq k id with
    | true =>
      have := beq_eq e
      subst this
      rw [Nat.beq_refl]; rfl
    | false =>
      have : Nat.beq (π k) (π id) = false := by
        cases e2 : Nat.beq (π k) (π id) with
        | false => rfl
        | true =>
          have := hi _ _ (beq_eq e2)
          subst this
          rw [Nat.beq_refl] at e; cases e
      rw [this]
      exact lk_ren hi r id

theorem RefRel.ren {π : Nat → Nat} {p : Option Pl} {k : Option Blk} {off : Nat} {len cap : Option Nat} {v : Value} : RefRel p (k.map (renB π)) off len cap v ↔ RefRel p k off len cap v := by
  cases k with
  | none => exact Iff.rfl
  | some k => cases k <;> exact Iff.rfl
theorem PtrRel.ren {π : Nat → Nat} {p : Option Pl} {k : Option Blk} {j c : Nat} {v : Value} : PtrRel p (k.map (renB π)) j c v ↔ PtrRel p k j c v := by
  cases k with
  | none => exact Iff.rfl
  | some k => cases k <;> exact Iff.rfl
theorem MapRel.ren {π : Nat → Nat} {p : Option Pl} {k : Option Blk} {v : Value} : MapRel p (k.map (renB π)) v ↔ MapRel p k v := by
  cases k with
  | none => exact Iff.rfl
  | some k => cases k <;> exact Iff.rfl

mutual
theorem VRel.ren {w : World} {N : Nat → Prop} {ρ ρ' : Ren} {h h' : Hp} {π : Nat → Nat} (hρ : ∀ id, ρ' (π id) = ρ id) (hh : ∀ id, h' (π id) = (h id).map (renB π)) : ∀ (x : V) (v : Value), VRel w N ρ' h' (renV π x) v ↔ VRel w N ρ h x v
  | .undef, _ => by simp only [renV, VRel]
  | .d x, v => by simp only [renV, VRel]
  | .agg cs, v => by
    simp only [renV, VRel]
    constructor
    · rintro ⟨a, rfl, r⟩; exact ⟨a, rfl, (VRelL.ren hρ hh cs _).1 r⟩
    · rintro ⟨a, rfl, r⟩; exact ⟨a, rfl, (VRelL.ren hρ hh cs _).2 r⟩
  | .tup cs, v => by
    simp only [renV, VRel]
    constructor
    · rintro ⟨a, rfl, r⟩; exact ⟨a, rfl, (VRelL.ren hρ hh cs _).1 r⟩
    · rintro ⟨a, rfl, r⟩; exact ⟨a, rfl, (VRelL.ren hρ hh cs _).2 r⟩
  | .nils, v => by simp only [renV, VRel]
  | .ref id off len cap, v => by simp only [renV, VRel, hρ, hh]; exact RefRel.ren
  | .ptr id j c, v => by simp only [renV, VRel, hρ, hh]; exact PtrRel.ren
  | .fn f first caps, v => by
    simp only [renV, VRel]
    constructor
    · rintro ⟨a, b, rfl, r, q⟩; exact ⟨a, b, rfl, (VRelL.ren hρ hh first _).1 r, (VRelL.ren hρ hh caps _).1 q⟩
    · rintro ⟨a, b, rfl, r, q⟩; exact ⟨a, b, rfl, (VRelL.ren hρ hh first _).2 r, (VRelL.ren hρ hh caps _).2 q⟩
  | .iface t x, v => by
    simp only [renV, VRel]
    constructor
    · rintro ⟨u, rfl, r⟩; exact ⟨u, rfl, (VRel.ren hρ hh x _).1 r⟩
    · rintro ⟨u, rfl, r⟩; exact ⟨u, rfl, (VRel.ren hρ hh x _).2 r⟩
  | .mapr id, v => by simp only [renV, VRel, hρ, hh]; exact MapRel.ren
  | .nilx b, v => by simp only [renV, VRel]
theorem VRelL.ren {w : World} {N : Nat → Prop} {ρ ρ' : Ren} {h h' : Hp} {π : Nat → Nat} (hρ : ∀ id, ρ' (π id) = ρ id) (hh : ∀ id, h' (π id) = (h id).map (renB π)) : ∀ (xs : List V) (vs : List Value), VRelL w N ρ' h' (renL π xs) vs ↔ VRelL w N ρ h xs vs
  | [], vs => by simp only [renL, VRelL]
  | x :: xs, vs => by
    simp only [renL, VRelL]
    constructor
    · rintro ⟨v, r, rfl, h1, h2⟩; exact ⟨v, r, rfl, (VRel.ren hρ hh x _).1 h1, (VRelL.ren hρ hh xs _).1 h2⟩
    · rintro ⟨v, r, rfl, h1, h2⟩; exact ⟨v, r, rfl, (VRel.ren hρ hh x _).2 h1, (VRelL.ren hρ hh xs _).2 h2⟩
end

theorem BlkRel.ren {w : World} {N : Nat → Prop} {ρ ρ' : Ren} {h h' : Hp} {π : Nat → Nat} (hρ : ∀ id, ρ' (π id) = ρ id) (hh : ∀ id, h' (π id) = (h id).map (renB π)) (p : Option Pl) (b : Blk) : BlkRel w N ρ' h' p (renB π b) ↔ BlkRel w N ρ h p b := by
  cases b with
  | box cs =>
    simp only [renB, BlkRel]
    constructor
    · rintro ⟨q, cells, elem, h1, h2, h3, h4, h5⟩; exact ⟨q, cells, elem, h1, h2, h3, h4, (VRelL.ren hρ hh cs _).1 h5⟩
    · rintro ⟨q, cells, elem, h1, h2, h3, h4, h5⟩; exact ⟨q, cells, elem, h1, h2, h3, h4, (VRelL.ren hρ hh cs _).2 h5⟩
  | _ => exact Iff.rfl

theorem Mine.ren {ρ ρ' : Ren} {h h' : Hp} {π π' : Nat → Nat} (hp : ∀ id, π (π' id) = id) (hρ : ∀ id, ρ' (π id) = ρ id) (hh : ∀ id, h' (π id) = (h id).map (renB π)) (b : Nat) : Mine ρ' h' b ↔ Mine ρ h b := by
  constructor
  · rintro ⟨id, q, hl, hq, rfl⟩
    rw [← hp id] at hl hq
    rw [hh, live_ren] at hl
    rw [hρ] at hq
    exact ⟨_, q, hl, hq, rfl⟩
  · rintro ⟨id, q, hl, hq, rfl⟩
    exact ⟨π id, q, by rw [hh, live_ren]; exact hl, by rw [hρ]; exact hq, rfl⟩

theorem Lies.ren {w : World} {N : Nat → Prop} {ρ ρ' : Ren} {h h' : Hp} {π π' : Nat → Nat} (hp : ∀ id, π (π' id) = id) (hi : ∀ a b, π a = π b → a = b) (hρ : ∀ id, ρ' (π id) = ρ id) (hh : ∀ id, h' (π id) = (h id).map (renB π)) : Lies w N ρ' h' ↔ Lies w N ρ h := by
  constructor
  · intro l
    refine ⟨fun id k hk => ?_, fun a b q q' ha hb hqa hqb e => ?_, fun id q hl hq => ?_⟩
    · have := l.heap (π id) (renB π k) (by rw [hh, hk]; rfl)
      rw [hρ] at this
      exact (BlkRel.ren hρ hh _ _).1 this
    · exact hi _ _ (l.inj (π a) (π b) q q' (by rw [hh, live_ren]; exact ha) (by rw [hh, live_ren]; exact hb) (by rw [hρ]; exact hqa) (by rw [hρ]; exact hqb) e)
    · exact l.lt (π id) q (by rw [hh, live_ren]; exact hl) (by rw [hρ]; exact hq)
  · intro l
    refine ⟨fun id k hk => ?_, fun a b q q' ha hb hqa hqb e => ?_, fun id q hl hq => ?_⟩
    · rw [← hp id, hh] at hk
      cases hk2 : h (π' id) with
      | none => rw [hk2] at hk; cases hk
      | some k2 =>
        rw [hk2] at hk
        obtain rfl := Option.some.inj hk
        rw [← hp id, hρ]
        exact (BlkRel.ren hρ hh _ _).2 (l.heap _ _ hk2)
    · rw [← hp a] at ha hqa
      rw [← hp b] at hb hqb
      rw [hh, live_ren] at ha hb
      rw [hρ] at hqa hqb
      rw [← hp a, ← hp b, l.inj _ _ q q' ha hb hqa hqb e]
    · rw [← hp id] at hl hq
      rw [hh, live_ren] at hl
      rw [hρ] at hq
      exact l.lt _ q hl hq

theorem BlkLe.ren {π : Nat → Nat} {a b : Option Blk} : BlkLe (a.map (renB π)) (b.map (renB π)) ↔ BlkLe a b := by
  cases a with
  | none => exact Iff.rfl
  | some a =>
    cases b with
    | none => cases a <;> exact Iff.rfl
    | some b => cases a <;> cases b <;> exact Iff.rfl

theorem FnOk.renOf {f : FuncId} {args : List V} {hin hout : List (Nat × Blk)} {out : Out} (π π' : Nat → Nat) (hp : ∀ id, π (π' id) = id) (hp' : ∀ id, π' (π id) = id) (c : FnOk P f args hin out hout) :
    FnOk P f (renL π args) (renH π hin) (out.ren π) (renH π hout) := by
  have hi : ∀ a b, π a = π b → a = b := fun a b e => by rw [← hp' a, e, hp']
  have hin' := lk_ren hi hin
  have hout' := lk_ren hi hout
  refine ⟨c.1, ?_⟩
  intro w N0 ρ vs hlow hap hargs hlies
  have hρ : ∀ id, ρ (π id) = (fun id => ρ (π id)) id := fun _ => rfl
  have hm := fun b => Mine.ren (ρ' := ρ) (ρ := fun id => ρ (π id)) hp hρ hin' b
  have hN : (fun b => N0 b ∨ Mine ρ (lk (renH π hin)) b) = (fun b => N0 b ∨ Mine (fun id => ρ (π id)) (lk hin) b) := by
    funext b; rw [hm b]
  rw [hN] at hargs hlies
  have t := c.2 w N0 (fun id => ρ (π id)) vs hlow (fun b hb h => hap b hb ((hm b).2 h)) ((VRelL.ren hρ hin' _ _).1 hargs) ((Lies.ren hp hi hρ hin').1 hlies)
  refine t.mono ?_
  rintro e w' ⟨ρ1, hout1, hb⟩
  have hρ1 : ∀ id, (fun id => ρ1 (π' id)) (π id) = ρ1 id := fun id => by show ρ1 (π' (π id)) = _; rw [hp']
  have hm1 := fun b => Mine.ren (ρ' := fun id => ρ1 (π' id)) (ρ := ρ1) (π := π) hp hρ1 hout' b
  have hN1 : (fun b => N0 b ∨ Mine (fun id => ρ1 (π' id)) (lk (renH π hout)) b) = (fun b => N0 b ∨ Mine ρ1 (lk hout) b) := by
    funext b; rw [hm1 b]
  refine ⟨fun id => ρ1 (π' id), ?_, ?_⟩
  · rw [hN1]
    cases out with
    | ret x =>
      cases e with
      | returned v => exact (VRel.ren (π := π) hρ1 hout' x v).2 hout1
      | _ => exact hout1.elim
    | pan x =>
      cases e with
      | panicked ch =>
        obtain ⟨v, h1, h2⟩ := hout1
        exact ⟨v, h1, (VRel.ren (π := π) hρ1 hout' x v).2 h2⟩
      | _ => exact hout1.elim
  · refine ⟨?_, fun id hl hl' => ?_, fun id q hl hq => ?_, hb.size, fun b hb1 hb2 => hb.frame b hb1 (fun h => hb2 ((hm b).2 h)), hb.os, hb.tape, hb.output, hb.drawn⟩
    · rw [hN1]
      exact (Lies.ren (π := π) hp hi hρ1 hout').2 hb.lies
    · rw [← hp id, hin', live_ren] at hl
      rw [← hp id, hout', live_ren] at hl'
      have := hb.blk _ hl hl'
      refine ⟨?_, ?_⟩
      · show ρ1 (π' id) = ρ id
        rw [this.1]
        show ρ (π (π' id)) = ρ id
        rw [hp]
      · rw [← hp id, hin', hout', BlkLe.ren]
        exact this.2
    · rw [← hp id, hout', live_ren] at hl
      rcases hb.new _ q hl (by exact hq) with h1 | h1
      · exact .inl h1
      · exact .inr ((hm _).2 h1)

theorem VRelL.splitNil {w : World} {N : Nat → Prop} {ρ : Ren} {h : Hp} {sz : Nat} {post : List V} : ∀ (pre : List V) (vs : List Value), VRelL w N ρ h (pre ++ .d (.sl sz []) :: post) vs →
    VRelL w N ρ h (pre ++ .nilx true :: post) vs ∨ VRelL w N ρ h (pre ++ .nilx false :: post) vs
  | [], vs, r => by
    rw [List.nil_append, VRelL.cons_iff] at r
    obtain ⟨v, q, rfl, h1, h2⟩ := r
    simp only [VRel, DRel] at h1
    obtain ⟨a, len, cap, rfl, rfl, _, _⟩ := h1
    cases ha : a.isNone with
    | true => left; rw [List.nil_append, VRelL.cons_iff]; exact ⟨_, q, rfl, by simp only [VRel]; exact ⟨a, cap, rfl, ha⟩, h2⟩
    | false => right; rw [List.nil_append, VRelL.cons_iff]; exact ⟨_, q, rfl, by simp only [VRel]; exact ⟨a, cap, rfl, ha⟩, h2⟩
  | x :: pre, vs, r => by
    rw [List.cons_append, VRelL.cons_iff] at r
    obtain ⟨v, q, rfl, h1, h2⟩ := r
    rcases VRelL.splitNil pre q h2 with h3 | h3
    · left; rw [List.cons_append, VRelL.cons_iff]; exact ⟨v, q, rfl, h1, h3⟩
    · right; rw [List.cons_append, VRelL.cons_iff]; exact ⟨v, q, rfl, h1, h3⟩

/-- An empty list is nil or is not. -/
theorem FnOk.splitNil {f : FuncId} {sz : Nat} (pre post : List V) {hin hout : List (Nat × Blk)} {out : Out} (c1 : FnOk P f (pre ++ .nilx true :: post) hin out hout) (c2 : FnOk P f (pre ++ .nilx false :: post) hin out hout) :
    FnOk P f (pre ++ .d (.sl sz []) :: post) hin out hout := by
  refine ⟨c1.1, fun w N0 ρ vs hlow hap hargs hlies => ?_⟩
  rcases VRelL.splitNil pre _ hargs with h | h
  · exact c1.2 w N0 ρ vs hlow hap h hlies
  · exact c2.2 w N0 ρ vs hlow hap h hlies

/-- One name for another, and back. -/
def swap1 (a b k : Nat) : Nat := match Nat.beq k a with
  | true => b
  | false => match Nat.beq k b with
    | true => a
    | false => k

theorem swap1_swap1 (a b k : Nat) : swap1 a b (swap1 a b k) = k := by
  unfold swap1
  cases h1 : Nat.beq k a with
  | true =>
    have := beq_eq h1
    subst this
    cases h2 : Nat.beq b k with
    | true => simp only; exact beq_eq h2
    | false => simp only [Nat.beq_refl]
  | false =>
    cases h2 : Nat.beq k b with
    | true =>
      have := beq_eq h2
      subst this
      simp only [Nat.beq_refl]
    | false => simp only [h1, h2]

def swaps : List (Nat × Nat) → Nat → Nat
  | [], k => k
  | (a, b) :: r, k => swaps r (swap1 a b k)
def swapsB : List (Nat × Nat) → Nat → Nat
  | [], k => k
  | (a, b) :: r, k => swap1 a b (swapsB r k)

theorem swaps_B : ∀ (l : List (Nat × Nat)) (k : Nat), swaps l (swapsB l k) = k
  | [], _ => rfl
  | (a, b) :: r, k => by simp only [swaps, swapsB, swap1_swap1]; exact swaps_B r k
theorem B_swaps : ∀ (l : List (Nat × Nat)) (k : Nat), swapsB l (swaps l k) = k
  | [], _ => rfl
  | (a, b) :: r, k => by simp only [swaps, swapsB]; rw [B_swaps r, swap1_swap1]

theorem FnOk.ren {f : FuncId} {args : List V} {hin hout : List (Nat × Blk)} {out : Out} (l : List (Nat × Nat)) (c : FnOk P f args hin out hout) :
    FnOk P f (renL (swaps l) args) (renH (swaps l) hin) (out.ren (swaps l)) (renH (swaps l) hout) :=
  c.renOf _ _ (swaps_B l) (B_swaps l)

end Go.Own
