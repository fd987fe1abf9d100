/-
make, append, copy on slices.
-/
import Derived.Test.YtlaohcpkecmhnaaOwnOps7
import Derived.IntWalk

set_option linter.all false

namespace Go.Own
open Go (Value IntKind BinOp UnOp TypeId)

variable {P : Program}

/-! ### make -/
def opSame : Operand → Operand → Bool
  | .tmp a, .tmp b => Nat.beq a b
  | .const (.int _ a), .const (.int _ b) => a == b
  | _, _ => false

def aMakeSlice (P : Program) (t : TypeId) (same : Bool) (l c : V) : Option (Nat × D × V × Int × List Prop) :=
  match P.underlying t with
  | some (.slice e) => match P.info? e with
    | none => none
    | some i => match i.zero with
      | none => none
      | some z => match constD z, Nat.beq z.cells.size i.size, Nat.blt 0 i.size, Nat.blt 0 i.bytes with
        | some d, true, true, true => match l, c with
          | .d (.int _ n), .d (.int _ m) => match same with
            | true => some (i.size, d, .ref 0 0 none (some m.toNat), m, [n = m, 0 ≤ m ∧ m * i.bytes ≤ 281474976710656])
            | false => some (i.size, d, .ref 0 0 (some n.toNat) (some m.toNat), m, [0 ≤ n ∧ n ≤ m ∧ m * i.bytes ≤ 281474976710656])
          | _, _ => none
        | _, _, _, _ => none
  | _ => none

def setId (id : Nat) : V → V
  | .ref _ off len cap => .ref id off len cap
  | v => v

theorem wrap_i64 {n : Int} (h : 0 ≤ n) (h' : n ≤ 281474976710656) : IntKind.i64.wrap n = n := by
  exact Go.IntWalk.i64_in n (by omega)

theorem Steps.makeSlice {op : Oper} {ty : TypeId} {l c : Operand} (ho : op.op = .makeSlice ty l c) {t : Nat → V} {h : Hp} {id : Nat} {same : Bool} {sz : Nat} {d : D} {x : V} {m : Int} {p : List Prop}
    (ha : aMakeSlice P ty same (evalV t l) (evalV t c) = some (sz, d, x, m, p)) (hp : AllP p) (hid : h id = none) : Steps P op t h (setId id x) (upd h id (some (.row sz (List.replicate m.toNat d)))) := by
  intro E ρ a w r
  have hl := r.eval l
  have hc := r.eval c
  unfold aMakeSlice at ha
  split at ha
  case h_2 => simp at ha
  rename_i e hu
  split at ha
  · simp at ha
  rename_i i hi
  split at ha
  · simp at ha
  rename_i z hz
  split at ha
  case h_2 => simp at ha
  rename_i d' hd hzs hpos hby
  have hzs := beq_eq hzs
  have hpos : 0 < i.size := by simpa using hpos
  have hby : 0 < i.bytes := by simpa using hby
  split at ha
  case h_2 => simp at ha
  rename_i k1 n k2 m' e1 e2
  rw [e1] at hl
  rw [e2] at hc
  have hl := hl.int
  have hc := hc.int
  have key : ∀ (x' : V), d' = d → i.size = sz → 0 ≤ n → n ≤ m' → m' * i.bytes ≤ 281474976710656 → m' = m →
      (x' = .ref id 0 none (some m'.toNat) ∧ n = m' ∨ x' = .ref id 0 (some n.toNat) (some m'.toNat)) →
      ∃ nx w' ρ', (execOp a.eval op).run P w = .ok nx w' ∧ RelAt E ρ' t (upd h id (some (.row sz (List.replicate m.toNat d)))) a w' ∧
        ((∃ v, nx = .value v ∧ VRel w' (E.NN ρ' (upd h id (some (.row sz (List.replicate m.toNat d))))) ρ' (upd h id (some (.row sz (List.replicate m.toNat d)))) x' v) ∨ (nx = .skip ∧ x' = .undef)) := by
    intro x' hd' hsz h0 hnm hbig hm hx'
    subst hd' hsz hm
    have hm48 : m' ≤ 281474976710656 := by
      have : m' * 1 ≤ m' * (i.bytes : Int) := Int.mul_le_mul_of_nonneg_left (by omega) (by omega)
      omega
    have hzero : (zeroValue e).run P w = .ok z w := by simp [zeroValue, typeInfo, hi, hz]
    have hs : (sizeOf e).run P w = .ok i.size w := by simp [sizeOf, typeInfo, hi]
    have zs := zeros_cells z w (E.NN ρ h) (constD_rel hd w (E.NN ρ h)) (by omega) m'.toNat
    rw [hzs] at zs
    generalize hY : (Array.range (m'.toNat * i.size)).map (fun k => z.cells[k % i.size]!) = Y at zs
    have hYs : Y.size = m'.toNat * i.size := by rw [← hY]; simp
    refine ⟨.value (.slice (some ⟨w.heap.size, 0, none⟩) n.toNat m'.toNat), w.alloc (.cells Y e), _, ?_, r.newRow (X := Y) (vs := Y.toList) (post := []) hid e rfl rfl rfl rfl (by simp) zs, .inl ⟨_, rfl, ?_⟩⟩
    · have e3 : (decide (m' < 0) || decide (281474976710656 < (i.bytes : Int) * m')) = false := by
        simp only [Bool.or_eq_false_iff, decide_eq_false_iff_not]
        constructor
        · omega
        · rw [Int.mul_comm]; omega
      have hti : (typeInfo e).run P w = .ok i w := by simp [typeInfo, hi]
      unfold execOp
      simp only [ho, Instr.makeSlice, hl, hc, asInt, asIntOf, Sem.run_bind, Sem.run_pure, Result.andThen_ok, run_underlying hu, hti]
      have w1 : IntKind.i64.wrap n = n := wrap_i64 h0 (by omega)
      have w2 : IntKind.i64.wrap m' = m' := wrap_i64 (by omega) hm48
      rw [w1, w2]
      have ec : ((((decide (m' < 0) || decide ((i.bytes : Int) * m' > 2 ^ 48)) = true ∨ n < 0) ∨ n > m')) ↔ False := by
        simp only [iff_false]
        rintro ((h1 | h1) | h1)
        · simp only [Bool.or_eq_true, decide_eq_true_eq] at h1
          rcases h1 with h1 | h1
          · omega
          · rw [Int.mul_comm] at h1; omega
        · omega
        · omega
      simp only [Bool.or_eq_true, decide_eq_true_eq] at ec ⊢
      rw [if_neg (by rw [ec]; exact fun q => q)]
      simp only [Sem.run_bind, run_askRoom, Result.andThen_ok, hs]
      by_cases hz0 : m'.toNat * i.size = 0
      · rw [if_pos hz0]
        have hYe : Y = #[] := by apply Array.eq_empty_of_size_eq_zero; omega
        simp only [Sem.run_bind, Sem.run_pure, Result.andThen_ok]
        rw [hz0, hYe]
        have e0 : Array.range 0 = #[] := Array.eq_empty_of_size_eq_zero (by simp)
        simp [Go.newRow, e0]
      · rw [if_neg hz0]
        simp only [Sem.run_bind, Sem.run_pure, Result.andThen_ok, hzero]
        rw [hzs, hY]
        simp [Go.newRow]
    · have hlen : (List.replicate m'.toNat d').length = m'.toNat := List.length_replicate
      rcases hx' with ⟨rfl, rfl⟩ | rfl
      · have := rowRef (w := w.alloc (.cells Y e)) (N := E.NN (upd ρ id (some ⟨w.heap.size, 0, Y.size⟩)) (upd h id (some (.row i.size (List.replicate n.toNat d'))))) (ρ := ρ) (h := h) (id := id) (b := w.heap.size) (n := Y.size) (sz := i.size) (c := n.toNat) (es := List.replicate n.toNat d') (cap := some n.toNat)
          (by simp) (fun k hk => by cases hk; rfl) (by rw [hYs]; exact Nat.le_refl _)
        rw [hlen] at this
        exact this
      · simp only [VRel, upd_same, RefRel, Option.getD_some, Nat.zero_add, hlen]
        refine ⟨by omega, some ⟨w.heap.size, 0, none⟩, m'.toNat, rfl, by omega, fun k hk => by cases hk; rfl, by simp, by rw [hYs]; exact Nat.le_refl _⟩
  split at ha
  · simp only [Option.some.injEq, Prod.mk.injEq] at ha
    obtain ⟨h1, h2, h3, h4, h5⟩ := ha
    subst h3 h5
    have q1 : n = m' := hp.1
    have q2 := hp.2.1
    exact key _ h2 h1 (by omega) (by omega) q2.2 h4 (.inl ⟨rfl, q1⟩)
  · simp only [Option.some.injEq, Prod.mk.injEq] at ha
    obtain ⟨h1, h2, h3, h4, h5⟩ := ha
    subst h3 h5
    have q2 := hp.1
    exact key _ h2 h1 q2.1 q2.2.1 q2.2.2 h4 (.inr rfl)

end Go.Own
