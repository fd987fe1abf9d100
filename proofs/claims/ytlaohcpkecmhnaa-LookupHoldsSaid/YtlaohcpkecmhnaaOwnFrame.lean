/-
A step that looks at a part of the state only.
-/
import Derived.Test.YtlaohcpkecmhnaaOwnCode

set_option linter.all false

namespace Go.Own
open Go (Value IntKind BinOp UnOp TypeId FuncId)

variable {P : Program}

def ovH (ups : List (Nat × Blk)) (h : Hp) : Hp := fun id => match lk ups id with
  | some k => some k
  | none => h id

/-- What is looked at of the temporaries: they refer to blocks of the part alone. -/
def TPart (ks : List Nat) (t1 t : Nat → V) : Prop := ∀ k, t1 k = .undef ∨ (t1 k = t k ∧ (t k).inside ks = true)

theorem partL_mem {h : Hp} : ∀ {ks : List Nat} {hin : List (Nat × Blk)}, partL h ks = some hin → ∀ {id : Nat} {k : Blk}, (id, k) ∈ hin → memN ks id = true
  | [], hin, hp, id, k, hk => by simp only [partL, Option.some.injEq] at hp; subst hp; simp at hk
  | j :: r, hin, hp, id, k, hk => by
    simp only [partL] at hp
    split at hp
    · split at hp
      · split at hp
        · rename_i l hl
          simp only [Option.some.injEq] at hp
          subst hp
          simp only [List.mem_cons, Prod.mk.injEq] at hk
          simp only [memN]
          rcases hk with ⟨rfl, _⟩ | hk
          · simp
          · have := partL_mem hl hk
            split
            · rfl
            · exact this
        · simp at hp
      · simp at hp
    · simp at hp

theorem StepsW.frame {op : Oper} {t t1 : Nat → V} {h : Hp} {ks : List Nat} {hin ups : List (Nat × Blk)} {x : V} (hp : partL h ks = some hin) (hins : allInside ks hin = true) (hfr : freshOut h ks ups = true) (ht : TPart ks t1 t)
    (s : StepsW P op t1 (lk hin) x (lk (ups ++ hin))) : StepsW P op t h x (ovH ups h) := by
  intro E ρ a w r K Q hK
  obtain ⟨hpart, hks⟩ := partL_eq hp
  have mine_part : ∀ x, Mine ρ (lk hin) x → ∃ id q, memN ks id = true ∧ live (h id) = true ∧ ρ id = some q ∧ q.b = x := by
    rintro x ⟨id, q, hl, hq, rfl⟩
    rw [hpart] at hl
    cases hm : memN ks id with
    | true => exact ⟨id, q, hm, hks id hm, hq, rfl⟩
    | false => simp [partH, hm, live] at hl
  let N0 : Nat → Prop := fun b => E.NN ρ h b ∧ ¬ Mine ρ (lk hin) b
  have hlow : ∀ b, N0 b → b < w.heap.size := by
    rintro b ⟨hb, _⟩
    rcases hb with hb | ⟨id, q, hl, hq, rfl⟩
    · exact Nat.lt_of_lt_of_le (E.low b hb) r.grown
    · exact r.lt id q hl hq
  have less : ∀ b, (N0 b ∨ Mine ρ (lk hin) b) → E.NN ρ h b := by
    rintro b (hb | hb)
    · exact hb.1
    · obtain ⟨id, q, _, hl, hq, rfl⟩ := mine_part b hb
      exact .inr ⟨id, q, hl, hq, rfl⟩
  have keepD : Keep w w (E.NN ρ h) (fun b => N0 b ∨ Mine ρ (lk hin) b) := ⟨Nat.le_refl _, fun _ _ _ => rfl, fun b _ hb => less b hb⟩
  have hk_in : ∀ id k, lk hin id = some k → memN ks id = true ∧ h id = some k := by
    intro id k hk
    rw [hpart] at hk
    cases hm : memN ks id with
    | true => simp only [partH, hm] at hk; exact ⟨rfl, hk⟩
    | false => simp [partH, hm] at hk
  let E' : Env := ⟨w, N0, Mine ρ (lk hin), E.n, E.defers, hlow, fun b hb => hb.2, ρ, lk hin, 0⟩
  have rel : RelAt E' ρ t1 (lk hin) a w := by
    refine ⟨fun k => ?_, r.size, r.defers, fun id k hk => ?_, fun id id' q q' hl hl' hq hq' he => ?_, fun id q hl hq => ?_, fun id q hl hq => .inr ⟨id, q, hl, hq, rfl⟩, fun _ _ _ => rfl, Nat.le_refl _, rfl, rfl, rfl, Nat.le_refl _, fun id _ h0 => ⟨fun e => ?_, fun _ => ⟨rfl, BlkLe.refl _⟩⟩⟩
    · rcases ht k with h1 | ⟨h1, h2⟩
      · rw [h1]; simp only [VRel]
      · rw [h1, hpart]
        exact inside_rel (fun b hb => less b (by rw [hpart]; exact hb)) _ _ h2 (r.tmps k)
    · obtain ⟨hm, hk'⟩ := hk_in id k hk
      have hrel := r.heap id k hk'
      have hi : k.inside ks = true := allInside_lk hins id k hk
      cases k with
      | dead => trivial
      | box cs =>
        obtain ⟨q, cells, elem, h1, h2, h3, h4, h5⟩ := hrel
        rw [hpart]
        exact ⟨q, cells, elem, h1, h2, h3, h4, insideL_rel (fun b hb => less b (by rw [hpart]; exact hb)) cs _ hi h5⟩
      | row sz es =>
        rcases hrel with h1 | ⟨q, cells, elem, pre, vs', post, h1, h2, h3, h4, h5, h6⟩
        · exact .inl h1
        · exact .inr ⟨q, cells, elem, pre, vs', post, h1, h2, h3, h4, h5, DRelE.keep keepD _ _ _ h6⟩
      | map as bs =>
        obtain ⟨q, es, clock, h1, h2, h3, h4, h5⟩ := hrel
        exact ⟨q, es, clock, h1, h2, h3, DRelL.keep keepD _ _ h4, DRelL.keep keepD _ _ h5⟩
    · have hlive : ∀ i, live (lk hin i) = true → live (h i) = true := fun i hi => by
        cases hk : lk hin i with
        | none => rw [hk] at hi; simp [live] at hi
        | some k => rw [(hk_in i k hk).2]; rw [hk] at hi; exact hi
      exact r.inj id id' q q' (hlive id hl) (hlive id' hl') hq hq' he
    · have hlive : live (h id) = true := by
        cases hk : lk hin id with
        | none => rw [hk] at hl; simp [live] at hl
        | some k => rw [(hk_in id k hk).2]; rw [hk] at hl; exact hl
      exact r.lt id q hlive hq
    · have h0' : live (lk hin id) = true := h0
      rw [e] at h0'; simp [live] at h0'
  refine s E' ρ a w rel K Q ?_
  intro ρ' v w' rel' hv
  have hb : Behind w w' N0 ρ ρ' (lk hin) (lk (ups ++ hin)) :=
    ⟨⟨rel'.heap, rel'.inj, rel'.lt⟩, fun id hl hl' => (rel'.stay id (Nat.zero_le _) hl).2 hl', fun id q hl hq => rel'.mine id q hl hq, rel'.grown, fun b hb hm => rel'.frame b hb hm, rel'.os, rel'.tape, rel'.output, rel'.drawn⟩
  have hfr' : freshOut h ks (ups ++ hin) = true := by
    have : ∀ (l : List (Nat × Blk)), (∀ id k, (id, k) ∈ l → memN ks id = true) → ∀ u, freshOut h ks u = true → freshOut h ks (u ++ l) = true := by
      intro l hl u hu
      induction u with
      | nil =>
        clear hu
        induction l with
        | nil => rfl
        | cons p l ih =>
          simp only [List.nil_append, freshOut, Bool.and_eq_true, Bool.or_eq_true]
          exact ⟨.inl (hl p.1 p.2 (by simp)), by simpa using ih (fun id k hk => hl id k (by simp [hk]))⟩
      | cons p u ih =>
        simp only [List.cons_append, freshOut, Bool.and_eq_true] at hu ⊢
        exact ⟨hu.1, ih hu.2⟩
    refine this hin ?_ ups hfr
    exact fun id k hk => partL_mem hp hk
  obtain ⟨h1, h2⟩ := r.behind hp hfr' false (fun _ x hx hm => ⟨hx, hm⟩) (fun e => by cases e) hb
  have he : behindH h ks (ups ++ hin) = ovH ups h := by
    funext id
    unfold behindH ovH
    rw [lk_append]
    cases hu : lk ups id with
    | some k => rfl
    | none =>
      simp only
      cases hk : lk hin id with
      | some k => simp only; exact (hk_in id k hk).2.symm
      | none =>
        simp only
        cases hm : memN ks id with
        | false => rfl
        | true =>
          rw [hpart] at hk
          simp only [partH, hm] at hk
          have := hks id hm
          rw [hk] at this; simp [live] at this
  rw [he] at h1 h2
  exact hK _ v w' h1 (h2 x v (fun e => by cases e) hv)

end Go.Own
