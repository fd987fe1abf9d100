/-
A state looked at as another one: what isn't needed is dropped, own blocks become data, names of blocks are changed.
-/
import Derived.Test.YtlaohcpkecmhnaaOwnCode

set_option linter.all false

namespace Go.Own
open Go (Value IntKind BinOp UnOp TypeId FuncId)

variable {P : Program}

def NilLe (b : D) : Prop := ∀ (w : World) (N : Nat → Prop) (a : Option Addr), DRel w N b (.slice a 0 0)

theorem DLe.rfl' {a : D} : DLe a a := fun _ _ _ h => h
theorem DLe.of_eq {a b : D} (h : a = b) : DLe a b := h ▸ DLe.rfl'
theorem NilLe.sl (n : Nat) : NilLe (.sl n []) := fun w N a => by
  simp only [DRel]
  exact ⟨a, 0, 0, rfl, rfl, Nat.le_refl _, .inl trivial⟩
theorem DLe.nil (n m : Nat) : DLe (.sl n []) (.sl m []) := fun w N v h => by
  simp only [DRel] at *
  obtain ⟨a, l, c, rfl, h1, h2, _⟩ := h
  exact ⟨a, l, c, rfl, h1, h2, .inl trivial⟩

structure WkO where
  σ : List (Nat × Nat) := []
  virt : List Nat := []

def srcId (o : WkO) (id : Nat) : Nat := match lk o.σ id with
  | some i => i
  | none => id

def srcs (o : WkO) : List (Nat × Blk) → List Nat
  | [] => []
  | (id, _) :: r => match memN o.virt id with
    | true => srcs o r
    | false => srcId o id :: srcs o r

def keys : List (Nat × Blk) → List Nat
  | [] => []
  | (id, _) :: r => id :: keys r

def nodupN : List Nat → Bool
  | [] => true
  | k :: r => match memN r k with
    | true => false
    | false => nodupN r

def lenLe (h : Hp) (id off : Nat) : Option Nat → Option Nat → Option (List Prop)
  | none, none => some []
  | some n, some m => some [n = m]
  | some n, none => match h id with
    | some (.row _ es) => some [n = es.length - off]
    | _ => none
  | none, some n => match h id with
    | some (.row _ es) => some [es.length - off = n]
    | _ => none

def capLe : Option Nat → Option Nat → Option (List Prop)
  | _, none => some []
  | some c, some c' => some [c = c']
  | none, some _ => none

def leDL : List D → List V → Option (List Prop)
  | [], [] => some []
  | a :: as, z :: zs => match leDL as zs with
    | none => none
    | some q => match z with
      | .undef => some q
      | .d b => some (DLe a b :: q)
      | _ => none
  | _, _ => none

def leLD : List V → List D → Option (List Prop)
  | [], [] => some []
  | y :: ys, b :: bs => match leLD ys bs with
    | none => none
    | some q => match y with
      | .d a => some (DLe a b :: q)
      | .nils => some (NilLe b :: q)
      | _ => none
  | _, _ => none

def sameFn : Fn → Fn → Bool
  | .func f, .func g => Nat.beq f g
  | _, _ => false

mutual
def leV (o : WkO) (h h' : Hp) : V → V → Option (List Prop)
  | _, .undef => some []
  | .d a, .d b => some [DLe a b]
  | .d (.agg as), .agg zs => leDL as zs
  | .nils, .d b => some [NilLe b]
  | .nilx _, .d (.sl _ es) => some [es = []]
  | .nils, .nils => some []
  | .nils, .ref id' off len none => match memN o.virt id', h' id' with
    | true, some (.row _ es) => match len with
      | none => some [es = [], off = 0]
      | some n => some [es = [], off = 0, n = 0]
    | _, _ => none
  | .ref id off len cap, .ref id' off' len' cap' => match Nat.beq (srcId o id') id, memN o.virt id', h' id' with
    | true, false, some _ => match lenLe h id off len len', capLe cap cap' with
      | some p, some q => some ((off = off') :: p ++ q)
      | _, _ => none
    | _, _, _ => none
  | .ptr id j c, .ptr id' j' c' => match Nat.beq (srcId o id') id, memN o.virt id', h' id' with
    | true, false, some _ => some [j = j', c = c']
    | _, _, _ => none
  | .mapr id, .mapr id' => match Nat.beq (srcId o id') id, memN o.virt id', h' id' with
    | true, false, some _ => some []
    | _, _, _ => none
  | .agg ys, .d (.agg bs) => leLD ys bs
  | .agg ys, .agg zs => leVL o h h' ys zs
  | .fn f xs ys, .fn f' xs' ys' => match sameFn f f' with
    | true => match leVL o h h' xs xs', leVL o h h' ys ys' with
      | some p, some q => some (p ++ q)
      | _, _ => none
    | false => none
  | .iface t x, .iface t' x' => match Nat.beq t t' with
    | true => leV o h h' x x'
    | false => none
  | _, _ => none
def leVL (o : WkO) (h h' : Hp) : List V → List V → Option (List Prop)
  | [], [] => some []
  | y :: ys, z :: zs => match leV o h h' y z with
    | none => none
    | some p => match leVL o h h' ys zs with
      | none => none
      | some q => some (p ++ q)
  | _, _ => none
end

structure Mt (o : WkO) (h h' : Hp) (ρ ρ' : Ren) : Prop where
  same : ∀ id', h' id' ≠ none → memN o.virt id' = false → ρ' id' = ρ (srcId o id') ∧ h (srcId o id') ≠ none ∧ BlkLe (h (srcId o id')) (h' id')
  virt : ∀ id', h' id' ≠ none → memN o.virt id' = true → ρ' id' = none

theorem Mt.beq {o : WkO} {h h' : Hp} {ρ ρ' : Ren} (m : Mt o h h' ρ ρ') {id id' : Nat} {k : Blk} (h1 : Nat.beq (srcId o id') id = true) (h2 : memN o.virt id' = false) (h3 : h' id' = some k) : ρ' id' = ρ id ∧ h id ≠ none ∧ BlkLe (h id) (h' id') := by
  have := beq_eq h1
  subst this
  exact m.same id' (by rw [h3]; simp) h2

theorem RefRel.le {p : Option Pl} {k : Option Blk} {off off' : Nat} {len len' cap cap' : Option Nat} {v : Value} (h : RefRel p k off len cap v) {P1 P2 : List Prop} {hh : Hp} {id : Nat} (hk : hh id = k) (h1 : lenLe hh id off len len' = some P1) (h2 : capLe cap cap' = some P2)
    (hp1 : AllP P1) (hp2 : AllP P2) (ho : off = off') : RefRel p k off' len' cap' v := by
  subst ho
  have hone := h.one
  cases k with
  | none => simp [RefRel] at h
  | some k =>
    cases k with
    | dead => simpa only [RefRel] using hone
    | row sz es =>
      have hL : len.getD (es.length - off) = len'.getD (es.length - off) := by
        cases len <;> cases len' <;> simp only [lenLe, hk, Option.some.injEq] at h1 <;> subst h1
        · rfl
        · exact hp1.1
        · exact hp1.1
        · exact hp1.1
      have hC : ∀ c, cap' = some c → cap = some c := by
        intro c hc
        subst hc
        cases cap with
        | none => simp [capLe] at h2
        | some c' =>
          simp only [capLe, Option.some.injEq] at h2
          subst h2
          rw [hp2.1]
      simp only [RefRel, hL] at h ⊢
      refine ⟨h.1, ?_⟩
      cases p with
      | none =>
        obtain ⟨h3, h4, h5⟩ := h.2
        refine ⟨h3, h4, ?_⟩
        cases cap' with
        | none => exact .inl rfl
        | some c =>
          rw [hC c rfl] at h5
          exact h5
      | some p =>
        obtain ⟨a, c, h3, h4, h5, h6⟩ := h.2
        exact ⟨a, c, h3, h4, fun k hk => h5 k (hC k hk), h6⟩
    | _ => simp [RefRel] at h

theorem leDL_sound {w : World} {N : Nat → Prop} {ρ : Ren} {h : Hp} : ∀ {as : List D} {zs : List V} {p : List Prop} {vs : List Value}, leDL as zs = some p → AllP p → DRelL w N as vs → VRelL w N ρ h zs vs
  | [], zs, p, vs, e, hp, r => by
    cases zs with
    | nil => rw [DRelL.nil_iff] at r; subst r; simp [VRelL]
    | cons z zs => simp [leDL] at e
  | a :: as, [], p, vs, e, hp, r => by simp [leDL] at e
  | a :: as, z :: zs, p, vs, e, hp, r => by
    rw [DRelL.cons_iff] at r
    obtain ⟨v, q, rfl, r1, r2⟩ := r
    rw [VRelL.cons_iff]
    simp only [leDL] at e
    split at e
    · simp at e
    rename_i q' hq
    split at e
    · simp only [Option.some.injEq] at e
      subst e
      exact ⟨v, q, rfl, by simp only [VRel], leDL_sound hq hp r2⟩
    · simp only [Option.some.injEq] at e
      subst e
      exact ⟨v, q, rfl, by simp only [VRel]; exact hp.1 w N v r1, leDL_sound hq hp.2 r2⟩
    · simp at e

theorem leLD_sound {w : World} {N : Nat → Prop} {ρ : Ren} {h : Hp} : ∀ {ys : List V} {bs : List D} {p : List Prop} {vs : List Value}, leLD ys bs = some p → AllP p → VRelL w N ρ h ys vs → DRelL w N bs vs
  | [], zs, p, vs, e, hp, r => by
    cases zs with
    | nil => rw [VRelL.nil_iff] at r; subst r; simp [DRelL]
    | cons z zs => simp [leLD] at e
  | a :: as, [], p, vs, e, hp, r => by simp [leLD] at e
  | a :: as, z :: zs, p, vs, e, hp, r => by
    rw [VRelL.cons_iff] at r
    obtain ⟨v, q, rfl, r1, r2⟩ := r
    rw [DRelL.cons_iff]
    simp only [leLD] at e
    split at e
    · simp at e
    rename_i q' hq
    split at e
    · simp only [Option.some.injEq] at e
      subst e
      simp only [VRel] at r1
      exact ⟨v, q, rfl, hp.1 w N v r1, leLD_sound hq hp.2 r2⟩
    · simp only [Option.some.injEq] at e
      subst e
      simp only [VRel] at r1
      obtain ⟨a, rfl⟩ := r1
      exact ⟨_, q, rfl, hp.1 w N a, leLD_sound hq hp.2 r2⟩
    · simp at e

theorem sameFn_eq {f g : Fn} (h : sameFn f g = true) : f = g := by
  unfold sameFn at h
  split at h
  · rw [beq_eq h]
  · simp at h

mutual
theorem leV_sound {w : World} {N : Nat → Prop} {ρ ρ' : Ren} {o : WkO} {h h' hp : Hp} (m : Mt o h h' ρ ρ') (hsub : ∀ id k, hp id = some k → h id = some k) : ∀ (y z : V) (p : List Prop) (v : Value), leV o h h' y z = some p → AllP p → VRel w N ρ hp y v → VRel w N ρ' h' z v
  | y, .undef, _, _, _, _, _ => by simp only [VRel]
  | .d a, .d b, p, v, e, hp, r => by
    simp only [leV, Option.some.injEq] at e
    subst e
    simp only [VRel] at r ⊢
    exact hp.1 w N v r
  | .nils, .d b, p, v, e, hp, r => by
    simp only [leV, Option.some.injEq] at e
    subst e
    simp only [VRel] at r ⊢
    obtain ⟨a, rfl⟩ := r
    exact hp.1 w N a
  | .nils, .nils, p, v, e, hp, r => by simpa only [VRel] using r
  | .nils, .ref id' off len none, p, v, e, hp, r => by
    simp only [leV] at e
    split at e
    · rename_i sz es hv hk
      have hpl := m.virt id' (by rw [hk]; simp) hv
      simp only [VRel] at r ⊢
      have key : es = [] → off = 0 → len.getD 0 = 0 → RefRel (ρ' id') (h' id') off len none v := by
        rintro rfl rfl hl
        rw [hk, hpl]
        simp only [RefRel, List.length_nil, Nat.zero_sub]
        rw [hl]
        exact ⟨Nat.le_refl _, r, rfl, .inl trivial⟩
      split at e
      · simp only [Option.some.injEq] at e
        subst e
        exact key hp.1 hp.2.1 rfl
      · simp only [Option.some.injEq] at e
        subst e
        exact key hp.1 hp.2.1 hp.2.2.1
    · simp at e
  | .ref id off len cap, .ref id' off' len' cap', p, v, e, hP, r => by
    simp only [leV] at e
    split at e
    · rename_i k h1 h2 h3
      split at e
      · rename_i p1 p2 e1 e2
        simp only [Option.some.injEq] at e
        subst e
        obtain ⟨m1, m2, m3⟩ := m.beq h1 h2 h3
        simp only [VRel] at r ⊢
        obtain ⟨hP1, hP2⟩ := hP
        replace hP2 : AllP (p1 ++ p2) := hP2
        rw [AllP.app] at hP2
        have hk : hp id = h id := by
          cases hh : hp id with
          | none => rw [hh] at r; simp [RefRel] at r
          | some k => exact (hsub id k hh).symm
        rw [hk] at r
        have := r.le (hh := h) (id := id) rfl e1 e2 hP2.1 hP2.2 hP1
        exact this.keep m3 (fun _ _ => m1)
      · simp at e
    · simp at e
  | .ptr id j c, .ptr id' j' c', p, v, e, hP, r => by
    simp only [leV] at e
    split at e
    · rename_i k h1 h2 h3
      simp only [Option.some.injEq] at e
      subst e
      obtain ⟨m1, m2, m3⟩ := m.beq h1 h2 h3
      simp only [VRel] at r ⊢
      have hk : hp id = h id := by
        cases hh : hp id with
        | none => rw [hh] at r; simp [PtrRel] at r
        | some k => exact (hsub id k hh).symm
      rw [hk] at r
      rw [← hP.1, ← hP.2.1]
      exact r.keep m3 (fun _ _ => m1)
    · simp at e
  | .mapr id, .mapr id', p, v, e, hP, r => by
    simp only [leV] at e
    split at e
    · rename_i k h1 h2 h3
      obtain ⟨m1, m2, m3⟩ := m.beq h1 h2 h3
      simp only [VRel] at r ⊢
      have hk : hp id = h id := by
        cases hh : hp id with
        | none => rw [hh] at r; simp [MapRel] at r
        | some k => exact (hsub id k hh).symm
      rw [hk] at r
      exact r.keep m3 (fun _ _ => m1)
    · simp at e
  | .agg ys, .agg zs, p, v, e, hP, r => by
    simp only [leV] at e
    simp only [VRel] at r ⊢
    obtain ⟨cs, rfl, r⟩ := r
    exact ⟨cs, rfl, leVL_sound m hsub ys zs p _ e hP r⟩
  | .fn f xs ys, .fn f' xs' ys', p, v, e, hP, r => by
    simp only [leV] at e
    split at e
    · rename_i hf
      have := sameFn_eq hf
      subst this
      split at e
      · rename_i p1 p2 e1 e2
        simp only [Option.some.injEq] at e
        subst e
        rw [AllP.app] at hP
        simp only [VRel] at r ⊢
        obtain ⟨fs, cs, rfl, r1, r2⟩ := r
        exact ⟨fs, cs, rfl, leVL_sound m hsub _ _ _ _ e1 hP.1 r1, leVL_sound m hsub _ _ _ _ e2 hP.2 r2⟩
      · simp at e
    · simp at e
  | .iface t x, .iface t' x', p, v, e, hP, r => by
    simp only [leV] at e
    split at e
    · rename_i ht
      have := beq_eq ht
      subst this
      simp only [VRel] at r ⊢
      obtain ⟨u, rfl, r⟩ := r
      exact ⟨u, rfl, leV_sound m hsub x x' p u e hP r⟩
    · simp at e
  | .undef, .d _, _, _, e, _, _ | .undef, .agg _, _, _, e, _, _ | .undef, .tup _, _, _, e, _, _ | .undef, .nils, _, _, e, _, _ | .undef, .ref .., _, _, e, _, _ | .undef, .ptr .., _, _, e, _, _ | .undef, .fn .., _, _, e, _, _ | .undef, .iface .., _, _, e, _, _ | .undef, .mapr _, _, _, e, _, _ => by simp [leV] at e
  | .tup _, .d _, _, _, e, _, _ | .tup _, .agg _, _, _, e, _, _ | .tup _, .tup _, _, _, e, _, _ | .tup _, .nils, _, _, e, _, _ | .tup _, .ref .., _, _, e, _, _ | .tup _, .ptr .., _, _, e, _, _ | .tup _, .fn .., _, _, e, _, _ | .tup _, .iface .., _, _, e, _, _ | .tup _, .mapr _, _, _, e, _, _ => by simp [leV] at e
  | .d x, .agg zs, p, v, e, hp, r => by
    cases x with
    | agg as =>
      simp only [leV] at e
      simp only [VRel, DRel] at r ⊢
      obtain ⟨cs, rfl, r⟩ := r
      exact ⟨cs, rfl, leDL_sound e hp r⟩
    | _ => simp [leV] at e
  | .d x, .tup _, _, _, e, _, _ | .d x, .nils, _, _, e, _, _ | .d x, .ref .., _, _, e, _, _ | .d x, .ptr .., _, _, e, _, _ | .d x, .fn .., _, _, e, _, _ | .d x, .iface .., _, _, e, _, _ | .d x, .mapr _, _, _, e, _, _ => by simp [leV] at e
  | .nilx b, .d x, p, v, e, hP, r => by
    cases x with
    | sl sz es =>
      simp only [leV, Option.some.injEq] at e
      subst e
      simp only [VRel, DRel] at r ⊢
      obtain ⟨a, c, rfl, _⟩ := r
      have := hP.1
      subst this
      exact ⟨a, 0, c, rfl, rfl, Nat.zero_le _, .inl rfl⟩
    | _ => simp [leV] at e
  | .d _, .nilx _, _, _, e, _, _ | .agg _, .nilx _, _, _, e, _, _ | .tup _, .nilx _, _, _, e, _, _ | .nils, .nilx _, _, _, e, _, _ | .ref .., .nilx _, _, _, e, _, _ | .ptr .., .nilx _, _, _, e, _, _ | .fn .., .nilx _, _, _, e, _, _ | .iface .., .nilx _, _, _, e, _, _ | .mapr _, .nilx _, _, _, e, _, _ | .undef, .nilx _, _, _, e, _, _ => by simp [leV] at e
  | .nilx _, .agg _, _, _, e, _, _ | .nilx _, .tup _, _, _, e, _, _ | .nilx _, .nils, _, _, e, _, _ | .nilx _, .ref .., _, _, e, _, _ | .nilx _, .ptr .., _, _, e, _, _ | .nilx _, .fn .., _, _, e, _, _ | .nilx _, .iface .., _, _, e, _, _ | .nilx _, .mapr _, _, _, e, _, _ | .nilx _, .nilx _, _, _, e, _, _ => by simp [leV] at e
  | .nils, .ref id' off len (some c), _, _, e, _, _ => by simp [leV] at e
  | .nils, .agg _, _, _, e, _, _ | .nils, .tup _, _, _, e, _, _ | .nils, .ptr .., _, _, e, _, _ | .nils, .fn .., _, _, e, _, _ | .nils, .iface .., _, _, e, _, _ | .nils, .mapr _, _, _, e, _, _ => by simp [leV] at e
  | .ref .., .d _, _, _, e, _, _ | .ref .., .agg _, _, _, e, _, _ | .ref .., .tup _, _, _, e, _, _ | .ref .., .nils, _, _, e, _, _ | .ref .., .ptr .., _, _, e, _, _ | .ref .., .fn .., _, _, e, _, _ | .ref .., .iface .., _, _, e, _, _ | .ref .., .mapr _, _, _, e, _, _ => by simp [leV] at e
  | .ptr .., .d _, _, _, e, _, _ | .ptr .., .agg _, _, _, e, _, _ | .ptr .., .tup _, _, _, e, _, _ | .ptr .., .nils, _, _, e, _, _ | .ptr .., .ref .., _, _, e, _, _ | .ptr .., .fn .., _, _, e, _, _ | .ptr .., .iface .., _, _, e, _, _ | .ptr .., .mapr _, _, _, e, _, _ => by simp [leV] at e
  | .mapr .., .d _, _, _, e, _, _ | .mapr .., .agg _, _, _, e, _, _ | .mapr .., .tup _, _, _, e, _, _ | .mapr .., .nils, _, _, e, _, _ | .mapr .., .ref .., _, _, e, _, _ | .mapr .., .fn .., _, _, e, _, _ | .mapr .., .iface .., _, _, e, _, _ | .mapr .., .ptr .., _, _, e, _, _ => by simp [leV] at e
  | .agg ys, .d x, p, v, e, hP, r => by
    cases x with
    | agg bs =>
      simp only [leV] at e
      simp only [VRel, DRel] at r ⊢
      obtain ⟨cs, rfl, r⟩ := r
      exact ⟨cs, rfl, leLD_sound e hP r⟩
    | _ => simp [leV] at e
  | .agg .., .tup _, _, _, e, _, _ | .agg .., .nils, _, _, e, _, _ | .agg .., .ref .., _, _, e, _, _ | .agg .., .ptr .., _, _, e, _, _ | .agg .., .fn .., _, _, e, _, _ | .agg .., .iface .., _, _, e, _, _ | .agg .., .mapr _, _, _, e, _, _ => by simp [leV] at e
  | .fn .., .d _, _, _, e, _, _ | .fn .., .agg _, _, _, e, _, _ | .fn .., .tup _, _, _, e, _, _ | .fn .., .nils, _, _, e, _, _ | .fn .., .ref .., _, _, e, _, _ | .fn .., .ptr .., _, _, e, _, _ | .fn .., .iface .., _, _, e, _, _ | .fn .., .mapr _, _, _, e, _, _ => by simp [leV] at e
  | .iface .., .d _, _, _, e, _, _ | .iface .., .agg _, _, _, e, _, _ | .iface .., .tup _, _, _, e, _, _ | .iface .., .nils, _, _, e, _, _ | .iface .., .ref .., _, _, e, _, _ | .iface .., .ptr .., _, _, e, _, _ | .iface .., .fn .., _, _, e, _, _ | .iface .., .mapr _, _, _, e, _, _ => by simp [leV] at e
theorem leVL_sound {w : World} {N : Nat → Prop} {ρ ρ' : Ren} {o : WkO} {h h' hp : Hp} (m : Mt o h h' ρ ρ') (hsub : ∀ id k, hp id = some k → h id = some k) : ∀ (ys zs : List V) (p : List Prop) (vs : List Value), leVL o h h' ys zs = some p → AllP p → VRelL w N ρ hp ys vs → VRelL w N ρ' h' zs vs
  | [], [], _, vs, _, _, r => by rw [VRelL.nil_iff] at r; subst r; simp [VRelL]
  | y :: ys, z :: zs, p, vs, e, hP, r => by
    rw [VRelL.cons_iff] at r
    obtain ⟨v, q, rfl, r1, r2⟩ := r
    simp only [leVL] at e
    split at e
    · simp at e
    rename_i p1 e1
    split at e
    · simp at e
    rename_i p2 e2
    simp only [Option.some.injEq] at e
    subst e
    rw [AllP.app] at hP
    rw [VRelL.cons_iff]
    exact ⟨v, q, rfl, leV_sound m hsub y z p1 v e1 hP.1 r1, leVL_sound m hsub ys zs p2 q e2 hP.2 r2⟩
  | [], _ :: _, _, _, e, _, _ => by simp [leVL] at e
  | _ :: _, [], _, _, e, _, _ => by simp [leVL] at e
end

/-- Value by value; what isn't asked for is left. -/
def cmpL (o : WkO) (ks : List Nat) (h h' : Hp) : List V → List V → Option (List Prop)
  | [], [] => some []
  | x :: xs, z :: zs => match cmpL o ks h h' xs zs with
    | none => none
    | some q => match z with
      | .undef => some q
      | z => match low ks h x with
        | some (y, _) => match leV o (partH ks h) h' y z with
          | some p => some (p ++ q)
          | none => none
        | none => none
  | _, _ => none

def cmpB (o : WkO) (ks : List Nat) (h h' : Hp) : List (Nat × Blk) → Option (List Prop)
  | [] => some []
  | (id', blk') :: r => match cmpB o ks h h' r with
    | none => none
    | some q => match memN o.virt id' with
      | true => match blk' with
        | .row _ es => some ((es = []) :: q)
        | _ => none
      | false => match h (srcId o id'), blk' with
        | some _, .dead => some q
        | some (.row sz es), .row sz' es' => some ((sz = sz') :: (es = es') :: q)
        | some (.box cs), .box cs' => match cmpL o ks h h' cs cs' with
          | some p => some (p ++ q)
          | none => none
        | some (.map as bs), .map as' bs' => some ((as = as') :: (bs = bs') :: q)
        | _, _ => none

def stayOk (o : WkO) (ks' : List Nat) : List Nat → Bool
  | [] => true
  | k :: r => (Nat.blt k 100000 || memN ks' k) && stayOk o ks' r

def stayOk' (o : WkO) : List Nat → Bool
  | [] => true
  | k :: r => (Nat.blt k 100000 || (Nat.beq (srcId o k) k && Bool.not (memN o.virt k))) && stayOk' o r

def wk (o : WkO) (h h' : List (Nat × Blk)) (xs zs : List V) : Option (List Prop) :=
  match nodupN (srcs o h'), stayOk o (keys h') (keys h), stayOk' o (keys h') with
  | true, true, true => match cmpB o (srcs o h') (lk h) (lk h') h', cmpL o (srcs o h') (lk h) (lk h') xs zs with
    | some p, some q => some (p ++ q)
    | _, _ => none
  | _, _, _ => none

theorem low_of {E : Env} {ρ : Ren} {t : Nat → V} {h : Hp} {a : Act} {w : World} (r : RelAt E ρ t h a w) {ks : List Nat} {N' : Nat → Prop} (l : ∀ b, Lend E ρ h ks b N') {x y : V} {b : Bool} {v : Value} (e : low ks h x = some (y, b)) (hv : VRel w (E.NN ρ h) ρ h x v) : VRel w N' ρ (partH ks h) y v :=
  low_rel r x y b v e (l b) hv

theorem cmpL_sound {E : Env} {ρ ρ' : Ren} {t : Nat → V} {h h' : Hp} {a : Act} {w : World} (r : RelAt E ρ t h a w) {o : WkO} {ks : List Nat} {N' : Nat → Prop} (l : ∀ b, Lend E ρ h ks b N') (m : Mt o (partH ks h) h' ρ ρ') :
    ∀ (xs zs : List V) (p : List Prop) (vs : List Value), cmpL o ks h h' xs zs = some p → AllP p → VRelL w (E.NN ρ h) ρ h xs vs → VRelL w N' ρ' h' zs vs
  | [], [], _, _, _, _, hv => by rw [VRelL.nil_iff] at hv; subst hv; simp [VRelL]
  | [], _ :: _, _, _, e, _, _ => by simp [cmpL] at e
  | _ :: _, [], _, _, e, _, _ => by simp [cmpL] at e
  | x :: xs, z :: zs, p, vs, e, hp, hv => by
    rw [VRelL.cons_iff] at hv
    obtain ⟨v, q, rfl, r1, r2⟩ := hv
    rw [VRelL.cons_iff]
    simp only [cmpL] at e
    split at e
    · simp at e
    rename_i p2 e2
    split at e
    · simp only [Option.some.injEq] at e
      subst e
      exact ⟨v, q, rfl, by simp only [VRel], cmpL_sound r l m xs zs _ _ e2 hp r2⟩
    · split at e
      · rename_i y b hy
        split at e
        · rename_i p1 e1
          simp only [Option.some.injEq] at e
          subst e
          rw [AllP.app] at hp
          exact ⟨v, q, rfl, leV_sound m (fun _ _ hk => hk) y _ p1 v e1 hp.1 (low_of r l hy r1), cmpL_sound r l m xs zs _ _ e2 hp.2 r2⟩
        · simp at e
      · simp at e

theorem keys_lk : ∀ {l : List (Nat × Blk)} {id : Nat}, lk l id ≠ none → memN (keys l) id = true
  | [], id, h => by simp [lk] at h
  | (k, b) :: r, id, h => by
    simp only [keys, memN]
    simp only [lk] at h
    cases hk : Nat.beq k id with
    | true => rfl
    | false => rw [hk] at h; exact keys_lk h

theorem lk_keys : ∀ {l : List (Nat × Blk)} {id : Nat}, memN (keys l) id = true → lk l id ≠ none
  | [], id, h => by simp [keys, memN] at h
  | (k, b) :: r, id, h => by
    simp only [keys, memN] at h
    simp only [lk]
    cases hk : Nat.beq k id with
    | true => simp
    | false => rw [hk] at h; exact lk_keys h

theorem stayOk_mem {o : WkO} {ks' : List Nat} : ∀ {l : List Nat}, stayOk o ks' l = true → ∀ id, memN l id = true → 100000 ≤ id → memN ks' id = true
  | [], _, id, h, _ => by simp [memN] at h
  | k :: r, hs, id, h, hid => by
    simp only [stayOk, Bool.and_eq_true, Bool.or_eq_true] at hs
    simp only [memN] at h
    split at h
    · rename_i hk
      have := beq_eq hk
      subst this
      rcases hs.1 with h1 | h1
      · have : k < 100000 := by simpa using h1
        omega
      · exact h1
    · exact stayOk_mem hs.2 id h hid

theorem stayOk'_mem {o : WkO} : ∀ {l : List Nat}, stayOk' o l = true → ∀ id, memN l id = true → 100000 ≤ id → srcId o id = id ∧ memN o.virt id = false
  | [], _, id, h, _ => by simp [memN] at h
  | k :: r, hs, id, h, hid => by
    simp only [stayOk', Bool.and_eq_true, Bool.or_eq_true] at hs
    simp only [memN] at h
    split at h
    · rename_i hk
      have := beq_eq hk
      subst this
      rcases hs.1 with h1 | h1
      · have : k < 100000 := by simpa using h1
        omega
      · exact ⟨beq_eq h1.1, by simpa using h1.2⟩
    · exact stayOk'_mem hs.2 id h hid

theorem srcs_mem {o : WkO} : ∀ {l : List (Nat × Blk)} {id : Nat}, memN (keys l) id = true → memN o.virt id = false → memN (srcs o l) (srcId o id) = true
  | [], id, h, _ => by simp [keys, memN] at h
  | (k, b) :: r, id, h, hv => by
    simp only [keys, memN] at h
    simp only [srcs]
    split at h
    · rename_i hk
      have := beq_eq hk
      subst this
      rw [hv]
      simp [memN]
    · have ih := srcs_mem (l := r) h hv
      cases memN o.virt k with
      | true => exact ih
      | false =>
        simp only [memN]
        cases Nat.beq (srcId o k) (srcId o id) with
        | true => rfl
        | false => exact ih

/-- Two names of the later state that stand for one block are one name. -/
theorem srcs_inj {o : WkO} : ∀ {l : List (Nat × Blk)}, nodupN (srcs o l) = true → ∀ {id id' : Nat}, memN (keys l) id = true → memN (keys l) id' = true → memN o.virt id = false → memN o.virt id' = false → srcId o id = srcId o id' → id = id'
  | [], _, id, _, h, _, _, _, _ => by simp [keys, memN] at h
  | (k, b) :: r, hn, id, id', h, h', hv, hv', he => by
    simp only [keys, memN] at h h'
    have hn' : nodupN (srcs o r) = true := by
      simp only [srcs] at hn
      split at hn
      · exact hn
      · simp only [nodupN] at hn
        split at hn
        · simp at hn
        · exact hn
    have out : memN o.virt k = false → memN (srcs o r) (srcId o k) = false := by
      intro hk
      simp only [srcs, hk, nodupN] at hn
      cases hm : memN (srcs o r) (srcId o k) with
      | false => rfl
      | true => rw [hm] at hn; simp at hn
    cases hk : Nat.beq k id with
    | true =>
      have e1 := beq_eq hk
      cases hk' : Nat.beq k id' with
      | true => have e2 := beq_eq hk'; rw [← e1, ← e2]
      | false =>
        rw [hk'] at h'
        have := srcs_mem (o := o) h' hv'
        rw [← he, ← e1] at this
        rw [← e1] at hv
        rw [out hv] at this; cases this
    | false =>
      rw [hk] at h
      cases hk' : Nat.beq k id' with
      | true =>
        have e2 := beq_eq hk'
        have := srcs_mem (o := o) h hv
        rw [he, ← e2] at this
        rw [← e2] at hv'
        rw [out hv'] at this; cases this
      | false =>
        rw [hk'] at h'
        exact srcs_inj hn' h h' hv hv' he

def wkR (o : WkO) (ρ : Ren) : Ren := fun id' => match memN o.virt id' with
  | true => none
  | false => ρ (srcId o id')

/-- What cmpB tells of one block. -/
def BlkOk (o : WkO) (ks : List Nat) (h h' : Hp) (id' : Nat) (blk' : Blk) : Prop :=
  (memN o.virt id' = true ∧ ∃ sz, blk' = .row sz []) ∨ (memN o.virt id' = false ∧ h (srcId o id') ≠ none ∧ (blk' = .dead ∨ (∃ sz es, h (srcId o id') = some (.row sz es) ∧ blk' = .row sz es) ∨
    (∃ cs cs' p, h (srcId o id') = some (.box cs) ∧ blk' = .box cs' ∧ cmpL o ks h h' cs cs' = some p ∧ AllP p) ∨ (∃ as bs, h (srcId o id') = some (.map as bs) ∧ blk' = .map as bs)))

theorem cmpB_sound {o : WkO} {ks : List Nat} {h h' : Hp} : ∀ (l : List (Nat × Blk)) (p : List Prop), cmpB o ks h h' l = some p → AllP p → ∀ id blk, lk l id = some blk → BlkOk o ks h h' id blk
  | [], _, _, _, id, blk, hl => by simp [lk] at hl
  | (k, b) :: r, p, e, hp, id, blk, hl => by
    simp only [cmpB] at e
    split at e
    · simp at e
    rename_i q hq
    have key : AllP q ∧ BlkOk o ks h h' k b := by
      split at e
      · rename_i hv
        split at e
        · rename_i sz es
          simp only [Option.some.injEq] at e
          subst e
          exact ⟨hp.2, .inl ⟨hv, sz, by rw [hp.1]⟩⟩
        · simp at e
      · rename_i hv
        split at e
        · rename_i x hx
          simp only [Option.some.injEq] at e
          subst e
          exact ⟨hp, .inr ⟨hv, by rw [hx]; simp, .inl rfl⟩⟩
        · rename_i sz es sz' es' hx
          simp only [Option.some.injEq] at e
          subst e
          exact ⟨hp.2.2, .inr ⟨hv, by rw [hx]; simp, .inr (.inl ⟨sz, es, hx, by rw [hp.1, hp.2.1]⟩)⟩⟩
        · rename_i cs cs' hx
          split at e
          · rename_i p1 e1
            simp only [Option.some.injEq] at e
            subst e
            rw [AllP.app] at hp
            exact ⟨hp.2, .inr ⟨hv, by rw [hx]; simp, .inr (.inr (.inl ⟨cs, cs', p1, hx, rfl, e1, hp.1⟩))⟩⟩
          · simp at e
        · rename_i as bs as' bs' hx
          simp only [Option.some.injEq] at e
          subst e
          exact ⟨hp.2.2, .inr ⟨hv, by rw [hx]; simp, .inr (.inr (.inr ⟨as, bs, hx, by rw [hp.1, hp.2.1]⟩))⟩⟩
        · simp at e
    simp only [lk] at hl
    split at hl
    · rename_i hk
      have := beq_eq hk
      subst this
      obtain rfl := Option.some.inj hl
      exact key.2
    · exact cmpB_sound r q hq key.1 id blk hl

theorem BlkOk.live {o : WkO} {ks : List Nat} {h h' : Hp} {id' : Nat} {blk' : Blk} (b : BlkOk o ks h h' id' blk') (hv : memN o.virt id' = false) (hl : live (some blk') = true) : live (h (srcId o id')) = true := by
  rcases b with ⟨h1, _⟩ | ⟨_, h2, h3⟩
  · rw [h1] at hv; cases hv
  · rcases h3 with rfl | ⟨sz, es, e, _⟩ | ⟨cs, cs', p, e, _⟩ | ⟨as, bs, e, _⟩
    · simp [Own.live] at hl
    · rw [e]; rfl
    · rw [e]; rfl
    · rw [e]; rfl

theorem wk_sound {o : WkO} {h h' : List (Nat × Blk)} {xs zs : List V} {p : List Prop} (hw : wk o h h' xs zs = some p) (hp : AllP p) {E : Env} {ρ : Ren} {t : Nat → V} {a : Act} {w : World} {vs : List Value} (hbase : 100000 ≤ E.base) (r : RelAt E ρ t (lk h) a w) (hv : VRelL w (E.NN ρ (lk h)) ρ (lk h) xs vs) :
    RelAt E (wkR o ρ) (fun _ => .undef) (lk h') a w ∧ VRelL w (E.NN (wkR o ρ) (lk h')) (wkR o ρ) (lk h') zs vs := by
  unfold wk at hw
  split at hw
  case h_2 => simp at hw
  rename_i c1 c2 c3
  split at hw
  case h_2 => simp at hw
  rename_i p1 p2 e1 e2
  simp only [Option.some.injEq] at hw
  subst hw
  rw [AllP.app] at hp
  have blkOk := cmpB_sound h' p1 e1 hp.1
  have hks : ∀ id, lk h' id ≠ none → memN o.virt id = false → memN (srcs o h') (srcId o id) = true := fun id h1 h2 => srcs_mem (keys_lk h1) h2
  have rlive : ∀ id q, live (lk h' id) = true → wkR o ρ id = some q → memN o.virt id = false ∧ live (lk h (srcId o id)) = true ∧ ρ (srcId o id) = some q := by
    intro id q hl hq
    cases hk : lk h' id with
    | none => rw [hk] at hl; simp [live] at hl
    | some k =>
      unfold wkR at hq
      split at hq
      · cases hq
      · rename_i hvt
        rw [hk] at hl
        exact ⟨hvt, (blkOk id k hk).live hvt hl, hq⟩
  have mine : ∀ b, Mine (wkR o ρ) (lk h') b → Mine ρ (lk h) b := by
    rintro b ⟨id, q, hl, hq, rfl⟩
    obtain ⟨_, h2, h3⟩ := rlive id q hl hq
    exact ⟨_, q, h2, h3, rfl⟩
  have less : ∀ b, E.NN (wkR o ρ) (lk h') b → E.NN ρ (lk h) b := fun b hb => hb.elim .inl (fun hm => .inr (mine b hm))
  have lend : ∀ b, Lend E ρ (lk h) (srcs o h') b (E.NN (wkR o ρ) (lk h')) := by
    refine fun b => ⟨less, fun _ id q hm hl hq hb => ?_⟩
    rcases hb with hb | ⟨id', q', hl', hq', he⟩
    · rcases r.mine id q hl hq with h1 | h1
      · have := E.low _ hb; omega
      · exact E.apart _ hb h1
    · obtain ⟨h1, h2, h3⟩ := rlive id' q' hl' hq'
      have := r.inj _ _ q' q h2 hl h3 hq he
      have hne : lk h' id' ≠ none := fun e => by rw [e] at hl'; simp [live] at hl'
      rw [← this, hks id' hne h1] at hm
      cases hm
  have mt : Mt o (partH (srcs o h') (lk h)) (lk h') ρ (wkR o ρ) := by
    refine ⟨fun id' hne hvt => ?_, fun id' _ hvt => by simp [wkR, hvt]⟩
    have hm := hks id' hne hvt
    rw [partH_ks hm]
    refine ⟨by simp [wkR, hvt], ?_⟩
    cases hk : lk h' id' with
    | none => exact absurd hk hne
    | some k =>
      rcases blkOk id' k hk with ⟨h1, _⟩ | ⟨_, h2, h3⟩
      · rw [h1] at hvt; cases hvt
      · refine ⟨h2, ?_⟩
        rcases h3 with rfl | ⟨sz, es, e, rfl⟩ | ⟨cs, cs', p, e, rfl, _⟩ | ⟨as, bs, e, rfl⟩
        · cases hh : lk h (srcId o id') with
          | none => trivial
          | some x => cases x <;> simp [BlkLe]
        · rw [e]; simp [BlkLe]
        · rw [e]; simp [BlkLe]
        · rw [e]; simp [BlkLe]
  have keepD : Keep w w (E.NN ρ (lk h)) (E.NN (wkR o ρ) (lk h')) := ⟨Nat.le_refl _, fun _ _ _ => rfl, fun b _ => less b⟩
  refine ⟨⟨fun k => by simp only [VRel], r.size, r.defers, fun id k hk => ?_, fun id id' q q' hl hl' hq hq' he => ?_, fun id q hl hq => ?_, fun id q hl hq => ?_, r.frame, r.grown, r.os, r.tape, r.output, r.drawn, fun id hid h0 => ?_⟩, cmpL_sound r lend mt xs zs p2 vs e2 hp.2 hv⟩
  · rcases blkOk id k hk with ⟨h1, sz, rfl⟩ | ⟨h1, h2, h3⟩
    · exact .inl ⟨by simp [wkR, h1], rfl⟩
    · have hρ : wkR o ρ id = ρ (srcId o id) := by simp [wkR, h1]
      rw [hρ]
      rcases h3 with rfl | ⟨sz, es, e, rfl⟩ | ⟨cs, cs', p, e, rfl, hc, hcp⟩ | ⟨as, bs, e, rfl⟩
      · trivial
      · rcases r.heap _ _ e with h4 | ⟨q, cells, elem, pre, vs', post, g1, g2, g3, g4, g5, g6⟩
        · exact .inl h4
        · exact .inr ⟨q, cells, elem, pre, vs', post, g1, g2, g3, g4, g5, DRelE.keep keepD _ _ _ g6⟩
      · obtain ⟨q, cells, elem, g1, g2, g3, g4, g5⟩ := r.heap _ _ e
        exact ⟨q, cells, elem, g1, g2, g3, g4, cmpL_sound r lend mt cs cs' p _ hc hcp g5⟩
      · obtain ⟨q, es, clock, g1, g2, g3, g4, g5⟩ := r.heap _ _ e
        exact ⟨q, es, clock, g1, g2, g3, DRelL.keep keepD _ _ g4, DRelL.keep keepD _ _ g5⟩
  · obtain ⟨h1, h2, h3⟩ := rlive id q hl hq
    obtain ⟨g1, g2, g3⟩ := rlive id' q' hl' hq'
    have := r.inj _ _ q q' h2 g2 h3 g3 he
    have n1 : lk h' id ≠ none := fun e => by rw [e] at hl; simp [live] at hl
    have n2 : lk h' id' ≠ none := fun e => by rw [e] at hl'; simp [live] at hl'
    exact srcs_inj c1 (keys_lk n1) (keys_lk n2) h1 g1 this
  · obtain ⟨_, h2, h3⟩ := rlive id q hl hq
    exact r.lt _ q h2 h3
  · obtain ⟨_, h2, h3⟩ := rlive id q hl hq
    exact r.mine _ q h2 h3
  · obtain ⟨s1, s2⟩ := r.stay id hid h0
    have hid : 100000 ≤ id := Nat.le_trans hbase hid
    have m1 := stayOk_mem c2 id (keys_lk s1) hid
    obtain ⟨m2, m3⟩ := stayOk'_mem c3 id m1 hid
    refine ⟨lk_keys m1, fun hl => ?_⟩
    have hρ : wkR o ρ id = ρ id := by simp [wkR, m3, m2]
    rw [hρ]
    cases hk : lk h' id with
    | none => rw [hk] at hl; simp [live] at hl
    | some k =>
      rw [hk] at hl
      have := (blkOk id k hk).live m3 hl
      rw [m2] at this
      obtain ⟨g1, g2⟩ := s2 this
      refine ⟨g1, g2.trans ?_⟩
      have := (mt.same id (by rw [hk]; simp) m3).2.2
      rw [m2] at this
      rw [← hk]
      have hm : memN (srcs o h') id = true := by
        have := hks id (by rw [hk]; simp) m3
        rwa [m2] at this
      rwa [partH_ks hm] at this

/-! ### States -/
def valsT : List (Nat × V) → List V
  | [] => []
  | (_, x) :: r => x :: valsT r
def atT (t : List (Nat × V)) : List (Nat × V) → List V
  | [] => []
  | (k, _) :: r => tmpOf t k :: atT t r

def wkS (o : WkO) (s s1 : St) : Option (List Prop) := wk o s.h s1.h (atT s.t s1.t) (valsT s1.t)

theorem atT_rel {w : World} {N : Nat → Prop} {ρ : Ren} {h : Hp} {t : Nat → V} {tm : Nat → Value} (ht : ∀ k, VRel w N ρ h (t k) (tm k)) : ∀ (l : List (Nat × V)) (g : List (Nat × V)), (∀ k, tmpOf g k = t k) → VRelL w N ρ h (atT g l) (l.map fun p => tm p.1)
  | [], _, _ => by simp [atT, VRelL]
  | (k, x) :: r, g, hg => by
    simp only [atT, List.map_cons]
    rw [VRelL.cons_iff]
    exact ⟨_, _, rfl, by rw [hg]; exact ht k, atT_rel ht r g hg⟩

theorem valsT_rel {w : World} {N : Nat → Prop} {ρ : Ren} {h : Hp} {tm : Nat → Value} : ∀ (l : List (Nat × V)), VRelL w N ρ h (valsT l) (l.map fun p => tm p.1) → ∀ k, VRel w N ρ h (tmpOf l k) (tm k)
  | [], _, k => by simp [tmpOf, lk, VRel]
  | (j, x) :: r, hv, k => by
    simp only [valsT, List.map_cons] at hv
    rw [VRelL.cons_iff] at hv
    obtain ⟨v, q, e, r1, r2⟩ := hv
    obtain ⟨rfl, rfl⟩ := List.cons.inj e
    rw [tmpOf_cons]
    by_cases hk : k = j
    · subst hk; rw [upd_same]; exact r1
    · rw [upd_other _ _ hk]; exact valsT_rel r r2 k

theorem Weak.of_wk {o : WkO} {s s1 : St} {p : List Prop} (h : wkS o s s1 = some p) (hp : AllP p) : Weak s s1 := by
  intro E ρ a w hb r
  obtain ⟨h1, h2⟩ := wk_sound h hp hb r (atT_rel (tm := fun k => a.tmps.getD k Go.undef) r.tmps s1.t s.t (fun _ => rfl))
  exact ⟨_, ⟨fun k => valsT_rel (tm := fun k => a.tmps.getD k Go.undef) s1.t h2 k, h1.size, h1.defers, h1.heap, h1.inj, h1.lt, h1.mine, h1.frame, h1.grown, h1.os, h1.tape, h1.output, h1.drawn, h1.stay⟩⟩

end Go.Own
