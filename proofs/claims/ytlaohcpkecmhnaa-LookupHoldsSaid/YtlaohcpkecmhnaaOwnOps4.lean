/-
Slices of slices, lengths, the least and the greatest, structs and arrays that are built.
-/
import Derived.Test.YtlaohcpkecmhnaaOwnOps3

set_option linter.all false

namespace Go.Own
open Go (Value IntKind BinOp UnOp TypeId)

variable {P : Program}

/-! ### Bounds -/
def bnd : Option V → Option (Option Int)
  | none => some none
  | some (.d (.int _ n)) => some (some n)
  | _ => none

/-- What is asked of the bounds: low, high, max, of a length and a capacity at least as great. -/
def bndP (lo hi mx : Option Int) (len : Nat) : Prop :=
  0 ≤ lo.getD 0 ∧ lo.getD 0 ≤ hi.getD len ∧ hi.getD len ≤ mx.getD len ∧ mx.getD len ≤ len ∧ (hi = none → mx = none)

theorem run_sliceBound {w : World} {k : IntKind} {n : Int} {y : Nat} (c : BoundsCode) (h : 0 ≤ n ∧ n ≤ (y : Int)) : (Instr.sliceBound (.int k n) y c).run P w = .ok n.toNat w := by
  unfold Instr.sliceBound
  simp only [asIntOf, Sem.run_bind, Sem.run_pure, Result.andThen_ok]
  rw [if_pos h]
  rfl

def mxOr (m : Option Int) (cap : Nat) : Nat := match m with | some x => x.toNat | none => cap

theorem run_sliceBounds {w : World} {lo hi mx : Option Value} {l h m : Option Int} {len cap : Nat} (b : Bool) (hl : ∀ v, lo = some v → ∃ k n, v = .int k n ∧ l = some n) (hl' : lo = none → l = none)
    (hh : ∀ v, hi = some v → ∃ k n, v = .int k n ∧ h = some n) (hh' : hi = none → h = none) (hm : ∀ v, mx = some v → ∃ k n, v = .int k n ∧ m = some n) (hm' : mx = none → m = none)
    (hb : bndP l h m len) (hc : len ≤ cap) :
    (Instr.sliceBounds b len cap lo hi mx).run P w = .ok ((l.getD 0).toNat, (h.getD len).toNat, mxOr m cap) w := by
  obtain ⟨h1, h2, h3, h4, h5⟩ := hb
  unfold Instr.sliceBounds mxOr
  cases mx with
  | some mv =>
    obtain ⟨k, n, rfl, rfl⟩ := hm mv rfl
    simp only [Option.getD_some] at h3 h4
    cases hi with
    | none => exact absurd (h5 (hh' rfl)) (by simp)
    | some hv =>
      obtain ⟨k', n', rfl, rfl⟩ := hh hv rfl
      simp only [Option.getD_some] at h2 h3
      have e1 : 0 ≤ n ∧ n ≤ (cap : Int) := by omega
      have e2 : 0 ≤ n' ∧ n' ≤ ((n.toNat : Nat) : Int) := by omega
      cases lo with
      | none =>
        have := hl' rfl
        subst this
        simp only [Sem.run_bind, run_sliceBound _ e1, run_sliceBound _ e2, Result.andThen_ok, Sem.run_pure, Option.getD_some, Option.getD_none]
        rfl
      | some lv =>
        obtain ⟨k'', n'', rfl, rfl⟩ := hl lv rfl
        simp only [Option.getD_some] at h1 h2
        have e3 : 0 ≤ n'' ∧ n'' ≤ ((n'.toNat : Nat) : Int) := by omega
        simp only [Sem.run_bind, run_sliceBound _ e1, run_sliceBound _ e2, run_sliceBound _ e3, Result.andThen_ok, Sem.run_pure, Option.getD_some]
  | none =>
    have := hm' rfl
    subst this
    simp only [Option.getD_none] at h3 h4
    cases hi with
    | none =>
      have := hh' rfl
      subst this
      simp only [Option.getD_none] at h2
      cases lo with
      | none =>
        have := hl' rfl
        subst this
        simp
      | some lv =>
        obtain ⟨k'', n'', rfl, rfl⟩ := hl lv rfl
        simp only [Option.getD_some] at h1 h2
        have e3 : 0 ≤ n'' ∧ n'' ≤ (len : Int) := by omega
        simp only [Sem.run_bind, run_sliceBound _ e3, Result.andThen_ok, Sem.run_pure, Option.getD_some, Option.getD_none, Int.toNat_natCast]
    | some hv =>
      obtain ⟨k', n', rfl, rfl⟩ := hh hv rfl
      simp only [Option.getD_some] at h2 h3
      have e2 : 0 ≤ n' ∧ n' ≤ (cap : Int) := by omega
      cases lo with
      | none =>
        have := hl' rfl
        subst this
        simp only [Sem.run_bind, run_sliceBound _ e2, Result.andThen_ok, Sem.run_pure, Option.getD_some, Option.getD_none]
        rfl
      | some lv =>
        obtain ⟨k'', n'', rfl, rfl⟩ := hl lv rfl
        simp only [Option.getD_some] at h1 h2
        have e3 : 0 ≤ n'' ∧ n'' ≤ ((n'.toNat : Nat) : Int) := by omega
        simp only [Sem.run_bind, run_sliceBound _ e2, run_sliceBound _ e3, Result.andThen_ok, Sem.run_pure, Option.getD_some]

def subL (es : List D) : Option Int → Option Int → List D
  | none, none => es
  | some l, none => es.drop l.toNat
  | none, some h => es.take h.toNat
  | some l, some h => (es.take h.toNat).drop l.toNat

theorem subL_eq (es : List D) (l h : Option Int) (hh : (h.getD es.length).toNat ≤ es.length) : subL es l h = (es.take (h.getD es.length).toNat).drop (l.getD 0).toNat := by
  cases l <;> cases h <;> simp [subL]

def capSub : Option Int → Option Nat → Option Int → Option Nat
  | some m, _, none => some m.toNat
  | some m, _, some l => some (m.toNat - l.toNat)
  | none, some k, none => some k
  | none, some k, some l => some (k - l.toNat)
  | none, none, _ => none

def lenSub (n : Nat) (whole : Bool) : Option Int → Option Int → Option Nat
  | none, none => match whole with | true => none | false => some n
  | some l, none => match whole with | true => none | false => some (n - l.toNat)
  | none, some h => some h.toNat
  | some l, some h => some (h.toNat - l.toNat)

def addO (off : Nat) : Option Int → Nat
  | none => off
  | some l => addN off l.toNat

theorem addO_eq (off : Nat) (l : Option Int) : addO off l = off + (l.getD 0).toNat := by
  cases l <;> simp [addO, addN_eq]

def aSlice (P : Program) (h : Hp) (t : TypeId) (x : V) (lo hi mx : Option V) : Option (V × List Prop) :=
  match bnd lo, bnd hi, bnd mx with
  | some l, some u, some m => match P.underlying t with
    | some .string => match x, m with
      | .d (.str s), none => some (.d (.str (s.extract (l.getD 0).toNat (u.getD s.size).toNat)), [bndP l u none s.size])
      | _, _ => none
    | some (.slice e) => match P.info? e with
      | none => none
      | some ie => match x with
        | .nils => some (.nils, [bndP l u m 0])
        | .d (.sl sz es) => match Nat.beq sz ie.size with
          | true => match m with
            | none => some (.d (.sl sz (subL es l u)), [bndP l u m es.length])
            | some 0 => some (.nils, [bndP l u m es.length])
            | some _ => some (.d (.sl sz (subL es l u)), [bndP l u m es.length])
          | false => none
        | .ref id off len cap => match h id with
          | some (.row sz es) => match Nat.beq sz ie.size with
            | true => some (.ref id (addO off l) (lenSub (len.getD (es.length - off)) len.isNone l u) (capSub m cap l), [bndP l u m (len.getD (es.length - off))])
            | false => none
          | _ => none
        | _ => none
    | some (.array n e) => match P.info? e with
      | none => none
      | some ie => match x with
        | .ptr id j 0 => match h id with
          | some (.row sz es) => match Nat.beq sz ie.size with
            | true => some (.ref id (addO j l) (some ((u.getD n).toNat - (l.getD 0).toNat)) (some ((m.getD n).toNat - (l.getD 0).toNat)), [bndP l u m n, j + n ≤ es.length])
            | false => none
          | _ => none
        | _ => none
    | _ => none
  | _, _, _ => none

theorem bnd_rel {w : World} {N : Nat → Prop} {ρ : Ren} {h : Hp} {t : Nat → V} {a : Act} {o : Option Operand} {l : Option Int} (hr : ∀ x, VRel w N ρ h (evalV t x) (a.eval x)) (hb : bnd (o.map (evalV t)) = some l) :
    (∀ v, o.map a.eval = some v → ∃ k n, v = .int k n ∧ l = some n) ∧ (o.map a.eval = none → l = none) := by
  cases o with
  | none =>
    simp [bnd] at hb
    subst hb
    simp
  | some x =>
    simp only [Option.map_some] at hb ⊢
    have hx := hr x
    unfold bnd at hb
    split at hb
    · rename_i he; simp at he
    · rename_i k n he
      simp only [Option.some.injEq] at he hb
      subst hb
      rw [he] at hx
      refine ⟨fun v hv => ?_, by simp⟩
      simp only [Option.some.injEq] at hv
      subst hv
      exact ⟨k, n, hx.int, rfl⟩
    · simp at hb

theorem Makes.slice {op : Oper} {ty : TypeId} {x : Operand} {lo hi mx : Option Operand} (ho : op.op = .slice ty x lo hi mx) {t : Nat → V} {h : Hp} {r : V} {p : List Prop}
    (ha : aSlice P h ty (evalV t x) (lo.map (evalV t)) (hi.map (evalV t)) (mx.map (evalV t)) = some (r, p)) (hp : AllP p) : Makes P op t h r := by
  intro E ρ a w rel
  have hx := rel.eval x
  unfold aSlice at ha
  split at ha
  case h_2 => simp at ha
  rename_i l u m el eu em
  obtain ⟨hl, hl'⟩ := bnd_rel (fun x => rel.eval x) el
  obtain ⟨hu, hu'⟩ := bnd_rel (fun x => rel.eval x) eu
  obtain ⟨hm, hm'⟩ := bnd_rel (fun x => rel.eval x) em
  have bounds := fun (b : Bool) (len cap : Nat) (hb : bndP l u m len) (hc : len ≤ cap) => run_sliceBounds (P := P) (w := w) b hl hl' hu hu' hm hm' hb hc
  split at ha
  · rename_i ht
    split at ha
    · rename_i s e1
      rw [e1] at hx
      have hx := hx.str
      simp only [Option.some.injEq, Prod.mk.injEq] at ha
      obtain ⟨rfl, rfl⟩ := ha
      have hmx : (mx.map a.eval) = none := by
        cases hq : mx.map a.eval with
        | none => rfl
        | some v => obtain ⟨_, _, _, h⟩ := hm v hq; cases h
      refine ⟨.string (s.extract (l.getD 0).toNat (u.getD s.size).toNat), ?_, by simp only [VRel, DRel]⟩
      have := bounds false s.size s.size hp.1 (Nat.le_refl _)
      rw [hmx] at this
      unfold execOp
      simp [ho, hx, Instr.sliceAt, Instr.slice, run_underlying ht, hmx, this]
    · simp at ha
  · rename_i e ht
    split at ha
    · simp at ha
    rename_i ie hie
    have hs : (sizeOf e).run P w = .ok ie.size w := by simp [sizeOf, typeInfo, hie]
    split at ha
    · rename_i e1
      rw [e1] at hx
      simp only [VRel] at hx
      simp only [Option.some.injEq, Prod.mk.injEq] at ha
      obtain ⟨rfl, rfl⟩ := ha
      have := bounds true 0 0 hp.1 (Nat.le_refl _)
      obtain ⟨ad, hx⟩ := hx
      refine ⟨.slice ad 0 0, ?_, by simp only [VRel]; exact ⟨ad, rfl⟩⟩
      obtain ⟨b1, b2, b3, b4, b5⟩ := hp.1
      unfold execOp
      simp only [ho, hx, Instr.sliceAt, Instr.slice, run_underlying ht, Sem.run_bind, Result.andThen_ok, this, hs]
      have q1 : (u.getD ((0 : Nat) : Int)).toNat = 0 := by omega
      have q2 : (l.getD 0).toNat = 0 := by omega
      have q3 : mxOr m 0 = 0 := by
        cases m with
        | none => rfl
        | some m => simp at b4; simp [mxOr]; omega
      simp [q2, q3]
      simpa using q1
    · rename_i sz es e1
      rw [e1] at hx
      split at ha
      case h_2 => simp at ha
      rename_i hsz
      have hsz := beq_eq hsz
      simp only [VRel, DRel] at hx
      obtain ⟨ad, len, cap, hv, rfl, hcap, hd⟩ := hx
      have fin : bndP l u m es.length → ∃ v, (execOp a.eval op).run P w = .ok (.value v) w ∧ VRel w (E.NN ρ h) ρ h (.d (.sl sz (subL es l u))) v ∧ (m = some 0 → ∃ q, v = .slice q 0 0) := by
        intro hp1
        have hb := bounds true es.length cap hp1 hcap
        obtain ⟨b1, b2, b3, b4, b5⟩ := hp1
        have hule : (u.getD es.length).toNat ≤ es.length := by omega
        refine ⟨_, by unfold execOp; simp only [ho, hv, Instr.sliceAt, Instr.slice, run_underlying ht, Sem.run_bind, Result.andThen_ok, hb, hs, Sem.run_pure]; rfl, ?_, ?_⟩
        · simp only [VRel, DRel]
          refine ⟨_, _, _, rfl, ?_, ?_, ?_⟩
          · rw [subL_eq _ _ _ hule, List.length_drop, List.length_take]; omega
          · have : (u.getD es.length).toNat ≤ mxOr m cap := by
              cases m with
              | none => simp [mxOr]; omega
              | some m => simp at b3; simp [mxOr]; omega
            omega
          · rcases hd with rfl | ⟨b, o, vs, rfl, hN, hbs, hc, he⟩
            · left; cases l <;> cases u <;> simp [subL]
            · by_cases hz : subL es l u = []
              · exact .inl hz
              · right
                have hne : ¬ (mxOr m cap = (l.getD 0).toNat) := by
                  intro heq
                  apply hz
                  rw [subL_eq _ _ _ hule]
                  apply List.drop_of_length_le
                  rw [List.length_take]
                  cases m with
                  | none => simp [mxOr] at heq; omega
                  | some m => simp [mxOr] at heq b3; omega
                refine ⟨b, o + (l.getD 0).toNat * ie.size, (vs.take ((u.getD es.length).toNat * sz)).drop ((l.getD 0).toNat * sz), ?_, hN, hbs, ?_, ?_⟩
                · rw [if_neg hne, Option.map_some, add_eq]
                · rw [← hsz]
                  intro j x hj
                  rw [List.getElem?_drop, List.getElem?_take] at hj
                  split at hj
                  · have := hc _ x hj
                    rw [← Nat.add_assoc] at this
                    exact this
                  · simp at hj
                · rw [subL_eq _ _ _ hule]
                  exact (he.take _).drop _
        · intro hm0
          subst hm0
          simp only [Option.getD_some] at b3
          have q1 : (u.getD (es.length : Int)).toNat - (l.getD 0).toNat = 0 := by omega
          have q2 : mxOr (some 0) cap - (l.getD 0).toNat = 0 := by simp [mxOr]
          rw [q1, q2]
          exact ⟨_, rfl⟩
      split at ha
      · simp only [Option.some.injEq, Prod.mk.injEq] at ha
        obtain ⟨rfl, rfl⟩ := ha
        obtain ⟨v, h1, h2, _⟩ := fin hp.1
        exact ⟨v, h1, h2⟩
      · simp only [Option.some.injEq, Prod.mk.injEq] at ha
        obtain ⟨rfl, rfl⟩ := ha
        obtain ⟨v, h1, _, h2⟩ := fin hp.1
        exact ⟨v, h1, by simp only [VRel]; exact h2 rfl⟩
      · simp only [Option.some.injEq, Prod.mk.injEq] at ha
        obtain ⟨rfl, rfl⟩ := ha
        obtain ⟨v, h1, h2, _⟩ := fin hp.1
        exact ⟨v, h1, h2⟩
    · rename_i id off len cap e1
      rw [e1] at hx
      simp only [VRel] at hx
      split at ha
      case h_2 => simp at ha
      rename_i sz es hk
      rw [hk] at hx
      split at ha
      case h_2 => simp at ha
      rename_i hsz
      have hsz := beq_eq hsz
      simp only [Option.some.injEq, Prod.mk.injEq] at ha
      obtain ⟨rfl, rfl⟩ := ha
      simp only [RefRel] at hx
      obtain ⟨hle, hx⟩ := hx
      have hlen : ∀ n, n = len.getD (es.length - off) → (lenSub n len.isNone l u).getD (es.length - addO off l) = (u.getD n).toNat - (l.getD 0).toNat := by
        intro n hn
        rw [addO_eq]
        cases len with
        | none =>
          simp at hn
          cases l <;> cases u <;> simp [lenSub] <;> omega
        | some k =>
          simp at hn
          cases l <;> cases u <;> simp [lenSub]
      generalize hn : len.getD (es.length - off) = n at *
      have hp1 := hp.1
      cases hq : ρ id with
      | none =>
        rw [hq] at hx
        obtain ⟨⟨ad, hv⟩, rfl, hcap⟩ := hx
        have hb := bounds true 0 0 hp1 (Nat.le_refl _)
        obtain ⟨b1, b2, b3, b4, b5⟩ := hp1
        have q1 : (u.getD ((0 : Nat) : Int)).toNat = 0 := by omega
        have q2 : (l.getD 0).toNat = 0 := by omega
        have q3 : mxOr m 0 = 0 := by
          cases m with
          | none => rfl
          | some m => simp at b4; simp [mxOr]; omega
        refine ⟨.slice ad 0 0, ?_, ?_⟩
        · unfold execOp
          simp only [ho, hv, Instr.sliceAt, Instr.slice, run_underlying ht, Sem.run_bind, Result.andThen_ok, hb, hs]
          simp [q2, q3]
          simpa using q1
        · simp only [VRel, hk, RefRel, hq, hlen 0 rfl, q1, q2, Nat.sub_zero]
          refine ⟨by rw [addO_eq, q2]; simpa using hle, ⟨ad, rfl⟩, trivial, ?_⟩
          have q4 : ∀ x, m = some x → x.toNat = 0 := fun x hx => by subst hx; exact q3
          have q5 : ∀ x, l = some x → x.toNat = 0 := fun x hx => by subst hx; simpa using q2
          cases m with
          | some x =>
            have := q4 x rfl
            cases l <;> simp [capSub, this]
          | none =>
            rcases hcap with rfl | rfl
            · left; cases l <;> rfl
            · right; cases l <;> simp [capSub]
      | some q =>
        rw [hq] at hx
        obtain ⟨ad, c, hv, hlc, hcap, had, hfit⟩ := hx
        have hb := bounds true n c hp1 hlc
        obtain ⟨b1, b2, b3, b4, b5⟩ := hp1
        refine ⟨_, by unfold execOp; simp only [ho, hv, Instr.sliceAt, Instr.slice, run_underlying ht, Sem.run_bind, Result.andThen_ok, hb, hs, Sem.run_pure]; rfl, ?_⟩
        simp only [VRel, hk, RefRel, hq, hlen n rfl]
        have hmc : (u.getD (n : Int)).toNat ≤ mxOr m c ∧ mxOr m c ≤ c := by
          cases m with
          | none => simp [mxOr]; omega
          | some m => simp at b3 b4; simp [mxOr]; omega
        refine ⟨by rw [addO_eq]; omega, _, _, rfl, by omega, ?_, ?_, ?_⟩
        · intro k hk
          cases m with
          | some x => cases l <;> simp [capSub] at hk <;> simp [mxOr] <;> omega
          | none =>
            cases cap with
            | none => simp [capSub] at hk
            | some y =>
              have := hcap y rfl
              subst this
              cases l <;> simp [capSub] at hk <;> simp [mxOr] <;> omega
        · split
          · rename_i heq; left; omega
          · rename_i heq
            right
            rcases had with rfl | rfl
            · exfalso; apply heq; omega
            · rw [Option.map_some, add_eq, addO_eq, ← hsz, Nat.add_mul, Nat.add_assoc]
        · rw [addO_eq]
          have : off + (l.getD 0).toNat + (mxOr m c - (l.getD 0).toNat) ≤ off + c := by omega
          exact Nat.le_trans (Nat.add_le_add_left (Nat.mul_le_mul_right _ this) _) hfit
    · simp at ha
  · rename_i n e ht
    split at ha
    · simp at ha
    rename_i ie hie
    have hs : (sizeOf e).run P w = .ok ie.size w := by simp [sizeOf, typeInfo, hie]
    split at ha
    · rename_i id j e1
      rw [e1] at hx
      simp only [VRel] at hx
      split at ha
      case h_2 => simp at ha
      rename_i sz es hk
      rw [hk] at hx
      split at ha
      case h_2 => simp at ha
      rename_i hsz
      have hsz := beq_eq hsz
      simp only [Option.some.injEq, Prod.mk.injEq] at ha
      obtain ⟨rfl, rfl⟩ := ha
      simp only [PtrRel] at hx
      obtain ⟨q, hq, hv⟩ := hx
      have hp1 := hp.1
      have hfit := hp.2.1
      have hb := bounds false n n hp1 (Nat.le_refl _)
      obtain ⟨b1, b2, b3, b4, b5⟩ := hp1
      have hm2 : mxOr m n = (m.getD (n : Int)).toNat := by cases m <;> simp [mxOr]
      rw [hm2] at hb
      refine ⟨_, by unfold execOp; simp only [ho, hv, Instr.sliceAt, Instr.sureAddr, run_underlying ht, Sem.run_bind, Sem.run_pure, Result.andThen_ok, hb, hs]; rfl, ?_⟩
      simp only [VRel, hk, RefRel, hq, Option.getD_some]
      have hrow := rel.heap id _ hk
      rw [hq] at hrow
      rcases hrow with ⟨h, _⟩ | ⟨q', cells, elem, pre, vs, post, hq', hbk, hsize, hcs, hpre, hde⟩
      · cases h
      obtain rfl := Option.some.inj hq'
      have hl1 := hde.length
      have hl2 : cells.size = pre.length + vs.length + post.length := by
        have := congrArg List.length hcs
        simpa [Nat.add_assoc] using this
      refine ⟨by rw [addO_eq]; omega, _, _, rfl, by omega, ?_, ?_, ?_⟩
      · intro k hk; simp at hk; omega
      · split
        · rename_i heq; left; omega
        · right; rw [add_eq, addO_eq, ← hsz, Nat.add_mul, Nat.add_zero, Nat.add_assoc]
      · rw [addO_eq]
        have h1 : j + (l.getD 0).toNat + ((m.getD (n : Int)).toNat - (l.getD 0).toNat) ≤ es.length := by omega
        have h2 := Nat.mul_le_mul_right sz h1
        omega
    · simp at ha
  · simp at ha

end Go.Own
