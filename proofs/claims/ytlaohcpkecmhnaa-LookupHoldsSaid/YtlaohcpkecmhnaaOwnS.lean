/-
The state of a function's text, and its relation to the model's frame and world: how it is carried over a step.
-/
import Derived.Test.YtlaohcpkecmhnaaOwnV
import Derived.Deep.AppendSrc
import Derived.Deep.MidRow
import Derived.Below

set_option linter.all false

namespace Go.Own

/-- What a call began with. -/
structure Env where
  w0 : World
  N0 : Nat → Prop
  X : Nat → Prop
  n : Nat
  defers : List Deferred
  low : ∀ b, N0 b → b < w0.heap.size
  apart : ∀ b, N0 b → ¬ X b
  ρ0 : Ren
  h0 : Hp
  base : Nat

/-- Blocks that are the function's own at the time. -/
def Mine (ρ : Ren) (h : Hp) (b : Nat) : Prop := ∃ id q, live (h id) = true ∧ ρ id = some q ∧ q.b = b

/-- Blocks in which no data may lie. -/
def Env.NN (E : Env) (ρ : Ren) (h : Hp) (b : Nat) : Prop := E.N0 b ∨ Mine ρ h b

def Inj (ρ : Ren) (h : Hp) : Prop := ∀ id id' q q', live (h id) = true → live (h id') = true → ρ id = some q → ρ id' = some q' → q.b = q'.b → id = id'

theorem BlkLe.trans {a b c : Option Blk} (h1 : BlkLe a b) (h2 : BlkLe b c) : BlkLe a c := by
  cases a with
  | none => trivial
  | some a =>
    cases c with
    | none =>
      cases b with
      | none => cases a <;> simp [BlkLe] at h1
      | some b => cases b <;> simp [BlkLe] at h2
    | some c =>
      cases c with
      | dead => cases a <;> trivial
      | row sz es =>
        cases b with
        | none => cases a <;> simp [BlkLe] at h1
        | some b =>
          cases b <;> try (simp [BlkLe] at h2; done)
          obtain ⟨rfl, e2⟩ : _ ∧ _ := by simpa [BlkLe] using h2
          cases a <;> try (simp [BlkLe] at h1; done)
          obtain ⟨rfl, e1⟩ : _ ∧ _ := by simpa [BlkLe] using h1
          exact ⟨rfl, e2.trans e1⟩
      | box cs =>
        cases b with
        | none => cases a <;> simp [BlkLe] at h1
        | some b =>
          cases b <;> try (simp [BlkLe] at h2; done)
          cases a <;> first | (simp [BlkLe] at h1; done) | trivial
      | map ks vs =>
        cases b with
        | none => cases a <;> simp [BlkLe] at h1
        | some b =>
          cases b <;> try (simp [BlkLe] at h2; done)
          cases a <;> first | (simp [BlkLe] at h1; done) | trivial

structure RelAt (E : Env) (ρ : Ren) (t : Nat → V) (h : Hp) (a : Act) (w : World) : Prop where
  tmps : ∀ k, VRel w (E.NN ρ h) ρ h (t k) (a.tmps.getD k Go.undef)
  size : a.tmps.size = E.n
  defers : a.defers = E.defers
  heap : ∀ id k, h id = some k → BlkRel w (E.NN ρ h) ρ h (ρ id) k
  inj : Inj ρ h
  lt : ∀ id q, live (h id) = true → ρ id = some q → q.b < w.heap.size
  mine : ∀ id q, live (h id) = true → ρ id = some q → E.w0.heap.size ≤ q.b ∨ E.X q.b
  frame : ∀ b, b < E.w0.heap.size → ¬ E.X b → w.heap[b]? = E.w0.heap[b]?
  grown : E.w0.heap.size ≤ w.heap.size
  os : w.os = E.w0.os
  tape : w.tape = E.w0.tape
  output : w.output = E.w0.output
  drawn : E.w0.drawn ≤ w.drawn
  stay : ∀ id, E.base ≤ id → live (E.h0 id) = true → h id ≠ none ∧ (live (h id) = true → ρ id = E.ρ0 id ∧ BlkLe (E.h0 id) (h id))

def upd {α : Type} (f : Nat → α) (k : Nat) (x : α) : Nat → α := fun j => if j = k then x else f j

@[simp] theorem upd_same {α : Type} (f : Nat → α) (k : Nat) (x : α) : upd f k x k = x := by simp [upd]
theorem upd_other {α : Type} (f : Nat → α) {k j : Nat} (x : α) (h : j ≠ k) : upd f k x j = f j := by simp [upd, h]

theorem RelAt.put {E : Env} {ρ : Ren} {t : Nat → V} {h : Hp} {a : Act} {w : World} (r : RelAt E ρ t h a w) {d : Nat} {x : V} {v : Value}
    (hv : VRel w (E.NN ρ h) ρ h x v) (hd : d < E.n) : RelAt E ρ (upd t d x) h (a.put (some d) v) w where
  tmps k := by
    by_cases hk : k = d
    · subst hk
      have : (a.put (some k) v).tmps.getD k Go.undef = v := by simp [Act.put, r.size, hd]
      rw [this, upd_same]; exact hv
    · have : (a.put (some d) v).tmps.getD k Go.undef = a.tmps.getD k Go.undef := by
        simp [Act.put, Array.getElem?_setIfInBounds_ne (Ne.symm hk)]
      rw [this, upd_other _ _ hk]; exact r.tmps k
  size := by simp [Act.put, r.size]
  defers := r.defers
  heap := r.heap
  inj := r.inj
  lt := r.lt
  mine := r.mine
  frame := r.frame
  grown := r.grown
  os := r.os
  tape := r.tape
  output := r.output
  drawn := r.drawn
  stay := r.stay

/-- The dst of an operation: nothing, or a temporary of the frame. -/
def putT (t : Nat → V) : Option Nat → V → (Nat → V)
  | none, _ => t
  | some d, x => upd t d x

def dstOk (n : Nat) : Option Nat → Bool
  | none => true
  | some d => Nat.blt d n

theorem RelAt.putD {E : Env} {ρ : Ren} {t : Nat → V} {h : Hp} {a : Act} {w : World} (r : RelAt E ρ t h a w) {dst : Option Nat} {x : V} {v : Value}
    (hv : VRel w (E.NN ρ h) ρ h x v) (hd : dstOk E.n dst = true) : RelAt E ρ (putT t dst x) h (a.put dst v) w := by
  cases dst with
  | none => exact r
  | some d => exact r.put hv (by simpa [dstOk] using hd)

/-- A step that turns the world, the function's own blocks, or both. -/
theorem RelAt.step {E : Env} {ρ ρ' : Ren} {t : Nat → V} {h h' : Hp} {a : Act} {w w' : World} (r : RelAt E ρ t h a w)
    (hsz : w.heap.size ≤ w'.heap.size)
    (hsame : ∀ b, b < w.heap.size → ¬ Mine ρ h b → w'.heap[b]? = w.heap[b]?)
    (hblk : ∀ id, BlkLe (h id) (h' id)) (hpl : ∀ id, live (h id) = true → live (h' id) = true → ρ' id = ρ id)
    (hnew : ∀ id q, live (h' id) = true → ρ' id = some q → q.b < w'.heap.size ∧ (w.heap.size ≤ q.b ∨ Mine ρ h q.b))
    (hinj : Inj ρ' h')
    (hheap : KeepV w w' (E.NN ρ h) (E.NN ρ' h') ρ ρ' h h' → ∀ id k, h' id = some k → BlkRel w' (E.NN ρ' h') ρ' h' (ρ' id) k)
    (hos : w'.os = w.os) (htape : w'.tape = w.tape) (hout : w'.output = w.output) (hd : w.drawn ≤ w'.drawn := by first | exact Nat.le_refl _ | exact Nat.le_succ _ | exact Nat.le_add_right _ _) :
    RelAt E ρ' t h' a w' ∧ KeepV w w' (E.NN ρ h) (E.NN ρ' h') ρ ρ' h h' := by
  have keep : KeepV w w' (E.NN ρ h) (E.NN ρ' h') ρ ρ' h h' := by
    refine ⟨⟨hsz, fun b hb hN => hsame b hb (fun m => hN (.inr m)), fun b hb hN' => ?_⟩, hblk, hpl⟩
    rcases hN' with h0 | ⟨id, q, hl, hq, rfl⟩
    · exact .inl h0
    · rcases (hnew id q hl hq).2 with h1 | h1
      · omega
      · exact .inr h1
  refine ⟨⟨fun k => VRel.keep keep _ _ (r.tmps k), r.size, r.defers, hheap keep, hinj, fun id q hl hq => (hnew id q hl hq).1, ?_, ?_, Nat.le_trans r.grown hsz, hos.trans r.os, htape.trans r.tape, hout.trans r.output, Nat.le_trans r.drawn hd, ?_⟩, keep⟩
  · intro id q hl hq
    rcases (hnew id q hl hq).2 with h1 | ⟨id', q', hl', hq', he⟩
    · exact .inl (Nat.le_trans r.grown h1)
    · rw [← he]; exact r.mine id' q' hl' hq'
  · intro b hb hX
    rw [hsame b (Nat.lt_of_lt_of_le hb r.grown) (fun ⟨id, q, hl, hq, he⟩ => ?_)]
    · exact r.frame b hb hX
    · subst he
      rcases r.mine id q hl hq with h1 | h1
      · omega
      · exact hX h1
  · intro id hid h0
    obtain ⟨h1, h2⟩ := r.stay id hid h0
    have hb := hblk id
    refine ⟨fun e => ?_, fun hl => ?_⟩
    · rw [e] at hb
      cases hk : h id with
      | none => exact h1 hk
      | some k => rw [hk] at hb; cases k <;> simp [BlkLe] at hb
    · have : live (h id) = true := by
        cases hk : h id with
        | none => exact absurd hk h1
        | some k =>
          cases k with
          | dead =>
            rw [hk] at hb
            cases hk' : h' id with
            | none => rw [hk'] at hl; simp [live] at hl
            | some k' => rw [hk'] at hb hl; cases k' <;> simp [BlkLe, live] at hb hl
          | _ => rfl
      rw [hpl id this hl]
      exact ⟨(h2 this).1, (h2 this).2.trans hb⟩

theorem BlkRel.keep {w w' : World} {N N' : Nat → Prop} {ρ ρ' : Ren} {h h' : Hp} (k : KeepV w w' N N' ρ ρ' h h') {p : Option Pl} {blk : Blk}
    (hs : ∀ q, p = some q → w'.heap[q.b]? = w.heap[q.b]?) (r : BlkRel w N ρ h p blk) : BlkRel w' N' ρ' h' p blk := by
  cases blk with
  | dead => trivial
  | box cs =>
    obtain ⟨q, cells, elem, rfl, h1, h2, h3, h4⟩ := r
    exact ⟨q, cells, elem, rfl, by rw [hs q rfl]; exact h1, h2, h3, VRelL.keep k _ _ h4⟩
  | row sz es =>
    rcases r with r | ⟨q, cells, elem, pre, vs, post, rfl, h1, h2, h3, h4, h5⟩
    · exact .inl r
    · exact .inr ⟨q, cells, elem, pre, vs, post, rfl, by rw [hs q rfl]; exact h1, h2, h3, h4, DRelE.keep k.data _ _ _ h5⟩
  | map ks vs =>
    obtain ⟨q, es, clock, rfl, h0, h1, h2, h3⟩ := r
    exact ⟨q, es, clock, rfl, h0, by rw [hs q rfl]; exact h1, DRelL.keep k.data _ _ h2, DRelL.keep k.data _ _ h3⟩

/-- A block that a step leaves alone. -/
theorem RelAt.others {E : Env} {ρ ρ' : Ren} {t : Nat → V} {h h' : Hp} {a : Act} {w w' : World} {N' : Nat → Prop} (r : RelAt E ρ t h a w) {id : Nat} {blk : Blk} (hid : h id = some blk) (k : KeepV w w' (E.NN ρ h) N' ρ ρ' h h')
    (hs : ∀ q, ρ id = some q → live (h id) = true → w'.heap[q.b]? = w.heap[q.b]?) : BlkRel w' N' ρ' h' (ρ id) blk := by
  cases blk with
  | dead => trivial
  | _ => exact (r.heap id _ hid).keep k (fun q hq => hs q hq (by rw [hid]; rfl))

/-- The world has drawn, or nothing of it has turned but that. -/
theorem RelAt.drew {E : Env} {ρ : Ren} {t : Nat → V} {h : Hp} {a : Act} {w w' : World} (r : RelAt E ρ t h a w) (hh : w'.heap = w.heap) (hos : w'.os = w.os) (ht : w'.tape = w.tape) (ho : w'.output = w.output) (hd : w.drawn ≤ w'.drawn := by first | exact Nat.le_refl _ | exact Nat.le_succ _ | exact Nat.le_add_right _ _) :
    RelAt E ρ t h a w' := by
  refine (r.step (by rw [hh]; exact Nat.le_refl _) (fun b _ _ => by rw [hh]) (fun id => BlkLe.refl _) (fun _ _ _ => rfl) (fun id q hl hq => ⟨by rw [hh]; exact r.lt id q hl hq, .inr ⟨id, q, hl, hq, rfl⟩⟩) r.inj
    (fun k id blk hb => (r.heap id blk hb).keep k (fun q _ => by rw [hh])) hos ht ho hd).1

/-- A new block. -/
theorem RelAt.new {E : Env} {ρ : Ren} {t : Nat → V} {h : Hp} {a : Act} {w w' : World} (r : RelAt E ρ t h a w) {id : Nat} (hid : h id = none) (obj : Obj) (n : Nat) (blk : Blk)
    (hw : w'.heap = w.heap.push obj) (hos : w'.os = w.os) (ht : w'.tape = w.tape) (ho : w'.output = w.output)
    (hb : KeepV w w' (E.NN ρ h) (E.NN (upd ρ id (some ⟨w.heap.size, 0, n⟩)) (upd h id (some blk))) ρ (upd ρ id (some ⟨w.heap.size, 0, n⟩)) h (upd h id (some blk)) →
      w'.heap[w.heap.size]? = some obj →
      BlkRel w' (E.NN (upd ρ id (some ⟨w.heap.size, 0, n⟩)) (upd h id (some blk))) (upd ρ id (some ⟨w.heap.size, 0, n⟩)) (upd h id (some blk)) (some ⟨w.heap.size, 0, n⟩) blk) (hd : w.drawn ≤ w'.drawn := by first | exact Nat.le_refl _ | exact Nat.le_succ _ | exact Nat.le_add_right _ _) :
    RelAt E (upd ρ id (some ⟨w.heap.size, 0, n⟩)) t (upd h id (some blk)) a w' ∧
    KeepV w w' (E.NN ρ h) (E.NN (upd ρ id (some ⟨w.heap.size, 0, n⟩)) (upd h id (some blk))) ρ (upd ρ id (some ⟨w.heap.size, 0, n⟩)) h (upd h id (some blk)) := by
  have hold : ∀ b, b < w.heap.size → w'.heap[b]? = w.heap[b]? := fun b hb => by
    rw [hw, Array.getElem?_push, if_neg (by omega)]
  have hsz : w'.heap.size = w.heap.size + 1 := by rw [hw, Array.size_push]
  have hne : ∀ j, live (h j) = true → j ≠ id := fun j hj e => by subst e; rw [hid] at hj; simp [live] at hj
  refine r.step (by omega) (fun b hb _ => hold b hb) (fun j => ?_) (fun j hj _ => ?_) (fun j q hj hq => ?_) ?_ (fun k j b hjb => ?_) hos ht ho hd
  · by_cases hj : j = id
    · subst hj; rw [hid]; trivial
    · rw [upd_other _ _ hj]; exact BlkLe.refl _
  · rw [upd_other _ _ (hne j hj)]
  · by_cases e : j = id
    · subst e
      rw [upd_same] at hq
      obtain rfl := Option.some.inj hq
      exact ⟨by show w.heap.size < w'.heap.size; omega, .inl (Nat.le_refl _)⟩
    · rw [upd_other _ _ e] at hj hq
      exact ⟨by have := r.lt j q hj hq; omega, .inr ⟨j, q, hj, hq, rfl⟩⟩
  · intro j j' q q' hj hj' hq hq' he
    by_cases e : j = id <;> by_cases e' : j' = id
    · rw [e, e']
    · subst e
      rw [upd_same] at hq
      rw [upd_other _ _ e'] at hj' hq'
      have := r.lt j' q' hj' hq'
      obtain rfl := Option.some.inj hq
      simp only at he
      omega
    · subst e'
      rw [upd_same] at hq'
      rw [upd_other _ _ e] at hj hq
      have := r.lt j q hj hq
      obtain rfl := Option.some.inj hq'
      simp only at he
      omega
    · rw [upd_other _ _ e] at hj hq
      rw [upd_other _ _ e'] at hj' hq'
      exact r.inj j j' q q' hj hj' hq hq' he
  · by_cases e : j = id
    · subst e
      rw [upd_same] at hjb ⊢
      obtain rfl := Option.some.inj hjb
      exact hb k (by rw [hw]; simp)
    · rw [upd_other _ _ e] at hjb ⊢
      exact r.others hjb k (fun q hq hlb => hold _ (r.lt j q hlb hq))

end Go.Own
