/-
Operations on addresses and memory that only read: fields, elements, loads, slices of slices, lengths.
-/
import Derived.Test.YtlaohcpkecmhnaaOwnOps2

set_option linter.all false

namespace Go.Own
open Go (Value IntKind BinOp UnOp TypeId)

variable {P : Program}

def addN : Nat → Nat → Nat
  | 0, k => k
  | j, 0 => j
  | j, k => j + k

theorem addN_eq (j k : Nat) : addN j k = j + k := by
  unfold addN
  split
  · simp
  · simp
  · rfl

theorem add_eq (b o n : Nat) : (⟨b, o, none⟩ : Addr).add n = ⟨b, o + n, none⟩ := Addr.add_mid b o n

/-! ### Fields -/
def aFieldAddr (P : Program) (h : Hp) (t : TypeId) (x : V) (f : Nat) : Option V :=
  match P.underlying t with
  | some (.struct fs) => match fs[f]? with
    | none => none
    | some g => match P.info? g.type with
      | none => none
      | some i => match i.size with
        | 0 => none
        | _ + 1 => match x with
          | .d (.ptr cs) => some (.d (.ptr (cs.drop g.offset)))
          | .ptr id j c => match h id with
            | some (.row sz _) => match sz with
              | 1 => some (.ptr id (addN j g.offset) c)
              | _ => some (.ptr id j (addN c g.offset))
            | some (.box _) => some (.ptr id (addN j g.offset) c)
            | _ => none
          | _ => none
  | _ => none

theorem run_fieldAt {t : TypeId} {fs : Array Field} {f : Nat} {g : Field} {i : TypeInfo} {n : Nat} (hu : P.underlying t = some (.struct fs)) (hg : fs[f]? = some g) (hi : P.info? g.type = some i) (hn : i.size = n + 1) (w : World) (b o : Nat) :
    (Instr.fieldAt t (.pointer (some ⟨b, o, none⟩)) f).run P w = .ok (.pointer (some ⟨b, o + g.offset, none⟩)) w := by
  simp [Instr.fieldAt, run_underlying hu, hg, Instr.sureAddr, fieldPlace, sizeOf, typeInfo, hi, hn, add_eq]

theorem ptrs_drop {w : World} {N : Nat → Prop} {cs : List D} {v : Value} (h : DRel w N (.ptr cs) v) : ∃ b o, v = .pointer (some ⟨b, o, none⟩) ∧ ∀ m, DRel w N (.ptr (cs.drop m)) (.pointer (some ⟨b, o + m, none⟩)) := by
  simp only [DRel] at h
  obtain ⟨b, o, vs, rfl, hN, hb, hc, hl⟩ := h
  refine ⟨b, o, rfl, fun m => ?_⟩
  simp only [DRel]
  refine ⟨b, o + m, vs.drop m, rfl, hN, hb, ?_, hl.drop m⟩
  intro j u hj
  rw [List.getElem?_drop] at hj
  have := hc (m + j) u hj
  rw [← Nat.add_assoc] at this
  exact this

theorem Makes.fieldAddr {op : Oper} {ty : TypeId} {x : Operand} {f : Nat} (ho : op.op = .fieldAddr ty x f) {t : Nat → V} {h : Hp} {r : V} (ha : aFieldAddr P h ty (evalV t x) f = some r) : Makes P op t h r := by
  intro E ρ a w rel
  have hx := rel.eval x
  unfold aFieldAddr at ha
  split at ha
  case h_2 => simp at ha
  rename_i fs hu
  split at ha
  · simp at ha
  rename_i g hg
  split at ha
  · simp at ha
  rename_i i hi
  split at ha
  · simp at ha
  rename_i n hn
  have run := run_fieldAt (P := P) hu hg hi hn w
  split at ha
  · rename_i cs e
    rw [e] at hx
    simp only [Option.some.injEq] at ha
    subst ha
    simp only [VRel] at hx
    obtain ⟨b, o, hv, hd⟩ := ptrs_drop hx
    exact ⟨_, by unfold execOp; simp only [ho, hv, Sem.run_bind, run b o, Result.andThen_ok]; rfl, by simp only [VRel]; exact hd _⟩
  · rename_i id j c e
    rw [e] at hx
    simp only [VRel] at hx
    split at ha
    · rename_i sz es hk
      rw [hk] at hx
      simp only [PtrRel] at hx
      obtain ⟨q, hq, hv⟩ := hx
      split at ha <;> simp only [Option.some.injEq] at ha <;> subst ha
      · refine ⟨_, by unfold execOp; simp only [ho, hv, Sem.run_bind, run, Result.andThen_ok]; rfl, ?_⟩
        simp only [VRel, hk, PtrRel, addN_eq]
        exact ⟨q, hq, by congr 3; omega⟩
      · refine ⟨_, by unfold execOp; simp only [ho, hv, Sem.run_bind, run, Result.andThen_ok]; rfl, ?_⟩
        simp only [VRel, hk, PtrRel, addN_eq]
        exact ⟨q, hq, by congr 3; omega⟩
    · rename_i cs hk
      rw [hk] at hx
      simp only [PtrRel] at hx
      obtain ⟨q, hq, hv⟩ := hx
      simp only [Option.some.injEq] at ha
      subst ha
      refine ⟨_, by unfold execOp; simp only [ho, hv, Sem.run_bind, run, Result.andThen_ok]; rfl, ?_⟩
      simp only [VRel, hk, PtrRel, addN_eq]
      exact ⟨q, hq, by congr 3; omega⟩
    · simp at ha
  · simp at ha

/-! ### A part of a value -/
def viewV (P : Program) (t : TypeId) (cs : List V) : Option V :=
  match isRow P t with
  | true => some (mkAgg cs)
  | false => match cs with
    | [x] => some x
    | _ => none

def partV (P : Program) (t : TypeId) (cs : List V) (off : Nat) : Option V :=
  match P.underlying t with
  | none => none
  | some _ => match P.info? t with
    | none => none
    | some i => match Nat.beq ((cs.drop off).take i.size).length i.size with
      | true => viewV P t ((cs.drop off).take i.size)
      | false => none

theorem run_partV {w : World} {N : Nat → Prop} {ρ : Ren} {h : Hp} {t : TypeId} {cs : List V} {off : Nat} {x : V} {X : Array Value} (ha : partV P t cs off = some x) (hl : VRelL w N ρ h cs X.toList) :
    ∃ v, (part t X off).run P w = .ok v w ∧ VRel w N ρ h x v := by
  unfold partV at ha
  split at ha
  · simp at ha
  rename_i d hu
  split at ha
  · simp at ha
  rename_i i hi
  split at ha
  case h_2 => simp at ha
  have hsub := (hl.drop off).take i.size
  unfold viewV at ha
  unfold part
  rw [Sem.run_bind, run_isAgg w hu]
  split at ha
  · rename_i hr
    simp only [Option.some.injEq] at ha
    subst ha
    refine ⟨.agg (X.extract off (off + i.size)), by simp [hr, sizeOf, typeInfo, hi], ?_⟩
    apply VRel.mkAgg
    have : (X.extract off (off + i.size)).toList = (X.toList.drop off).take i.size := by
      rw [Array.toList_extract, List.extract_eq_take_drop]
      congr 1
      omega
    rw [this]
    exact hsub
  · rename_i hr
    split at ha
    · rename_i y hy
      simp only [Option.some.injEq] at ha
      subst ha
      rw [hy, VRelL.cons_iff] at hsub
      obtain ⟨v, q, hvq, hr1, _⟩ := hsub
      have h0 : ((X.toList.drop off).take i.size)[0]? = some v := by rw [hvq]; rfl
      rw [List.getElem?_take] at h0
      split at h0
      · rw [List.getElem?_drop] at h0
        refine ⟨v, ?_, hr1⟩
        have : X[off]? = some v := by simpa using h0
        simp [hr, this]
      · simp at h0
    · simp at ha

def aField (P : Program) (t : TypeId) (x : V) (f : Nat) : Option V :=
  match P.underlying t with
  | some (.struct fs) => match fs[f]? with
    | none => none
    | some g => match x with
      | .d (.agg ds) => partV P g.type (ds.map V.d) g.offset
      | .agg cs => partV P g.type cs g.offset
      | _ => none
  | _ => none

theorem Makes.field {op : Oper} {ty : TypeId} {x : Operand} {f : Nat} (ho : op.op = .field ty x f) {t : Nat → V} {h : Hp} {r : V} (ha : aField P ty (evalV t x) f = some r) : Makes P op t h r := by
  intro E ρ a w rel
  have hx := rel.eval x
  unfold aField at ha
  split at ha
  case h_2 => simp at ha
  rename_i fs hu
  split at ha
  · simp at ha
  rename_i g hg
  have key : ∀ (X : Array Value) (cs : List V), a.eval x = .agg X → VRelL w (E.NN ρ h) ρ h cs X.toList → partV P g.type cs g.offset = some r → ∃ v, (execOp a.eval op).run P w = .ok (.value v) w ∧ VRel w (E.NN ρ h) ρ h r v := by
    intro X cs hv hl hp
    obtain ⟨v, hr, hrel⟩ := run_partV hp hl
    refine ⟨v, ?_, hrel⟩
    unfold execOp
    simp [ho, hv, Instr.field, run_underlying hu, hg, asAgg, hr]
  split at ha
  · rename_i ds e
    rw [e] at hx
    simp only [VRel, DRel] at hx
    obtain ⟨X, hv, hl⟩ := hx
    exact key X _ hv (VRelL.of_data hl) ha
  · rename_i cs e
    rw [e] at hx
    simp only [VRel] at hx
    obtain ⟨X, hv, hl⟩ := hx
    exact key X _ hv hl ha
  · simp at ha

/-! ### Elements -/
def aIndexAddr (P : Program) (h : Hp) (hint : Option D) (t : TypeId) (x i : V) : Option (V × List Prop) :=
  match i with
  | .d (.int _ n) => match P.underlying t with
    | some (.array len e) => match P.info? e with
      | none => none
      | some ie => match x with
        | .d (.ptr cs) => some (.d (.ptr (cs.drop (n.toNat * ie.size))), [0 ≤ n ∧ n < (len : Int)])
        | .ptr id j c => match h id with
          | some (.row sz _) => match Nat.beq sz ie.size, Nat.beq sz 1 with
            | true, _ => some (.ptr id (addN j n.toNat) c, [0 ≤ n ∧ n < (len : Int)])
            | false, true => some (.ptr id (addN j (n.toNat * ie.size)) c, [0 ≤ n ∧ n < (len : Int)])
            | false, false => some (.ptr id j (addN c (n.toNat * ie.size)), [0 ≤ n ∧ n < (len : Int)])
          | some (.box _) => some (.ptr id (addN j (n.toNat * ie.size)) c, [0 ≤ n ∧ n < (len : Int)])
          | _ => none
        | _ => none
    | some (.slice e) => match P.info? e with
      | none => none
      | some ie => match x with
        | .d (.sl sz es) => match Nat.beq sz ie.size with
          | false => none
          | true => match hint with
            | some y => some (.d (.ptr y.cells), [0 ≤ n, es[n.toNat]? = some y])
            | none => match es[n.toNat]? with
              | some y => some (.d (.ptr y.cells), [0 ≤ n])
              | none => none
        | .ref id off len _ => match h id with
          | some (.row sz es) => match Nat.beq sz ie.size with
            | true => some (.ptr id (addN off n.toNat) 0, [0 ≤ n ∧ n < ((len.getD (es.length - off) : Nat) : Int)])
            | false => none
          | _ => none
        | _ => none
    | _ => none
  | _ => none

theorem beq_eq {a b : Nat} (h : Nat.beq a b = true) : a = b := Nat.eq_of_beq_eq_true h

theorem elem_ptr {w : World} {N : Nat → Prop} {sz : Nat} {es : List D} {j : Nat} {y : D} {v : Value} (h : DRel w N (.sl sz es) v) (hj : es[j]? = some y) :
    ∃ b o c, v = .slice (some ⟨b, o, none⟩) es.length c ∧ DRel w N (.ptr y.cells) (.pointer (some ⟨b, o + j * sz, none⟩)) := by
  simp only [DRel] at h
  obtain ⟨a, len, cap, rfl, rfl, _, h⟩ := h
  rcases h with rfl | ⟨b, o, vs, rfl, hN, hb, hc, he⟩
  · simp at hj
  · refine ⟨b, o, cap, rfl, ?_⟩
    obtain ⟨u, hu, hd, pre, post, rfl, hpre, _, _⟩ := he.get j y hj
    simp only [DRel]
    refine ⟨b, o + j * sz, u.cells.toList, rfl, hN, hb, ?_, hd.cells⟩
    intro k x hk
    have hlt : k < u.cells.toList.length := (List.getElem?_eq_some_iff.1 hk).1
    have := hc (j * sz + k) x (by rw [List.append_assoc, List.getElem?_append_right (by omega), hpre, Nat.add_sub_cancel_left, List.getElem?_append_left hlt]; exact hk)
    rw [← Nat.add_assoc] at this
    exact this

theorem Makes.indexAddr {op : Oper} {ty : TypeId} {x i : Operand} (ho : op.op = .indexAddr ty x i) {hint : Option D} {t : Nat → V} {h : Hp} {r : V} {p : List Prop}
    (ha : aIndexAddr P h hint ty (evalV t x) (evalV t i) = some (r, p)) (hp : AllP p) : Makes P op t h r := by
  intro E ρ a w rel
  have hx := rel.eval x
  have hi := rel.eval i
  unfold aIndexAddr at ha
  split at ha
  case h_2 => simp at ha
  rename_i k n ei
  rw [ei] at hi
  have hi := hi.int
  split at ha
  · rename_i len e hu
    split at ha
    · simp at ha
    rename_i ie hie
    have run : ∀ b o, 0 ≤ n → n < (len : Int) → (execOp a.eval op).run P w = .ok (.value (.pointer (some ⟨b, o + n.toNat * ie.size, none⟩))) w ∨ a.eval x ≠ .pointer (some ⟨b, o, none⟩) := by
      intro b o h0 h1
      by_cases hv : a.eval x = .pointer (some ⟨b, o, none⟩)
      · left
        unfold execOp
        simp [ho, hi, hv, Instr.indexAt, run_underlying hu, asIntOf, Instr.sureAddr, h0, h1, sizeOf, typeInfo, hie, add_eq]
      · exact .inr hv
    split at ha
    · rename_i cs e1
      rw [e1] at hx
      simp only [Option.some.injEq, Prod.mk.injEq] at ha
      obtain ⟨rfl, rfl⟩ := ha
      simp only [VRel] at hx
      obtain ⟨b, o, hv, hd⟩ := ptrs_drop hx
      exact ⟨_, (run b o hp.1.1 hp.1.2).resolve_right (fun h => h hv), by simp only [VRel]; exact hd _⟩
    · rename_i id j c e1
      rw [e1] at hx
      simp only [VRel] at hx
      split at ha
      · rename_i sz es hk
        rw [hk] at hx
        simp only [PtrRel] at hx
        obtain ⟨q, hq, hv⟩ := hx
        split at ha <;> simp only [Option.some.injEq, Prod.mk.injEq] at ha <;> obtain ⟨rfl, rfl⟩ := ha <;>
          refine ⟨_, (run _ _ hp.1.1 hp.1.2).resolve_right (fun h => h hv), ?_⟩ <;> simp only [VRel, hk, PtrRel, addN_eq] <;> refine ⟨q, hq, ?_⟩ <;> congr 3
        · rename_i h1
          have := beq_eq h1
          subst this
          rw [Nat.add_mul]
          omega
        · rename_i h1
          have := beq_eq h1
          subst this
          omega
        · omega
      · rename_i cs hk
        rw [hk] at hx
        simp only [PtrRel] at hx
        obtain ⟨q, hq, hv⟩ := hx
        simp only [Option.some.injEq, Prod.mk.injEq] at ha
        obtain ⟨rfl, rfl⟩ := ha
        refine ⟨_, (run _ _ hp.1.1 hp.1.2).resolve_right (fun h => h hv), ?_⟩
        simp only [VRel, hk, PtrRel, addN_eq]
        exact ⟨q, hq, by congr 3; omega⟩
      · simp at ha
    · simp at ha
  · rename_i e hu
    split at ha
    · simp at ha
    rename_i ie hie
    split at ha
    · rename_i sz es e1
      rw [e1] at hx
      simp only [VRel] at hx
      split at ha
      · simp at ha
      rename_i hsz
      have hsz := beq_eq hsz
      have key : ∀ y, 0 ≤ n → es[n.toNat]? = some y → ∃ v, (execOp a.eval op).run P w = .ok (.value v) w ∧ VRel w (E.NN ρ h) ρ h (.d (.ptr y.cells)) v := by
        intro y h0 hy
        obtain ⟨b, o, c, hv, hd⟩ := elem_ptr hx hy
        have hlt : n < (es.length : Int) := by have := (List.getElem?_eq_some_iff.1 hy).1; omega
        refine ⟨.pointer (some ⟨b, o + n.toNat * sz, none⟩), ?_, by simp only [VRel]; exact hd⟩
        unfold execOp
        simp [ho, hi, hv, Instr.indexAt, run_underlying hu, asIntOf, h0, hlt, sizeOf, typeInfo, hie, add_eq, hsz]
      split at ha
      · rename_i y
        simp only [Option.some.injEq, Prod.mk.injEq] at ha
        obtain ⟨rfl, rfl⟩ := ha
        exact key y hp.1 hp.2.1
      · split at ha
        · rename_i y hy
          simp only [Option.some.injEq, Prod.mk.injEq] at ha
          obtain ⟨rfl, rfl⟩ := ha
          exact key y hp.1 hy
        · simp at ha
    · rename_i id off len cap e1
      rw [e1] at hx
      simp only [VRel] at hx
      split at ha
      · rename_i sz es hk
        rw [hk] at hx
        split at ha
        · rename_i hsz
          have hsz := beq_eq hsz
          simp only [Option.some.injEq, Prod.mk.injEq] at ha
          obtain ⟨rfl, rfl⟩ := ha
          have h0 := hp.1.1
          have h1 := hp.1.2
          simp only [RefRel] at hx
          obtain ⟨hle, hx⟩ := hx
          cases hq : ρ id with
          | none =>
            rw [hq] at hx
            obtain ⟨_, hz, _⟩ := hx
            rw [hz] at h1
            omega
          | some q =>
            rw [hq] at hx
            obtain ⟨ad, cp, hv, hlc, _, had, _⟩ := hx
            have : ad = some ⟨q.b, q.o + off * sz, none⟩ := by
              rcases had with rfl | h
              · omega
              · exact h
            subst this
            refine ⟨.pointer (some ⟨q.b, q.o + off * sz + n.toNat * sz, none⟩), ?_, ?_⟩
            · unfold execOp
              simp [ho, hi, hv, Instr.indexAt, run_underlying hu, asIntOf, h0, h1, sizeOf, typeInfo, hie, add_eq, hsz]
            · simp only [VRel, hk, PtrRel, addN_eq]
              refine ⟨q, hq, ?_⟩
              congr 3
              rw [Nat.add_mul]
              omega
        · simp at ha
      · simp at ha
    · simp at ha
  · simp at ha

/-! ### An element of a value: an array's, a string's -/
def aIndex (P : Program) (t : TypeId) (x i : V) : Option (V × List Prop) :=
  match i with
  | .d (.int _ n) => match P.underlying t with
    | some (.array len e) => match P.info? e with
      | none => none
      | some ie => match x with
        | .d (.agg ds) => match partV P e (ds.map V.d) (n.toNat * ie.size) with
          | some y => some (y, [0 ≤ n ∧ n < (len : Int)])
          | none => none
        | .agg cs => match partV P e cs (n.toNat * ie.size) with
          | some y => some (y, [0 ≤ n ∧ n < (len : Int)])
          | none => none
        | _ => none
    | some .string => match x with
      | .d (.str s) => some (.d (.int .u8 (s.data.toList.getD n.toNat 0).toNat), [0 ≤ n ∧ n < (s.size : Int)])
      | _ => none
    | _ => none
  | _ => none

theorem Makes.index {op : Oper} {ty : TypeId} {x i : Operand} (ho : op.op = .index ty x i) {t : Nat → V} {h : Hp} {r : V} {p : List Prop}
    (ha : aIndex P ty (evalV t x) (evalV t i) = some (r, p)) (hp : AllP p) : Makes P op t h r := by
  intro E ρ a w rel
  have hx := rel.eval x
  have hi := rel.eval i
  unfold aIndex at ha
  split at ha
  case h_2 => simp at ha
  rename_i k n ei
  rw [ei] at hi
  have hi := hi.int
  split at ha
  · rename_i len e hu
    split at ha
    · simp at ha
    rename_i ie hie
    have key : ∀ (X : Array Value) (cs : List V) (y : V), a.eval x = .agg X → VRelL w (E.NN ρ h) ρ h cs X.toList → partV P e cs (n.toNat * ie.size) = some y → 0 ≤ n ∧ n < (len : Int) →
        ∃ v, (execOp a.eval op).run P w = .ok (.value v) w ∧ VRel w (E.NN ρ h) ρ h y v := by
      intro X cs y hv hl hq hb
      obtain ⟨v, hr, hrel⟩ := run_partV hq hl
      refine ⟨v, ?_, hrel⟩
      unfold execOp
      simp [ho, hi, hv, Instr.index, run_underlying hu, asIntOf, hb.1, hb.2, sizeOf, typeInfo, hie, hr]
    split at ha
    · rename_i ds e1
      rw [e1] at hx
      simp only [VRel, DRel] at hx
      obtain ⟨X, hv, hl⟩ := hx
      split at ha
      · rename_i y hy
        simp only [Option.some.injEq, Prod.mk.injEq] at ha
        obtain ⟨rfl, rfl⟩ := ha
        exact key X _ _ hv (VRelL.of_data hl) hy hp.1
      · simp at ha
    · rename_i cs e1
      rw [e1] at hx
      simp only [VRel] at hx
      obtain ⟨X, hv, hl⟩ := hx
      split at ha
      · rename_i y hy
        simp only [Option.some.injEq, Prod.mk.injEq] at ha
        obtain ⟨rfl, rfl⟩ := ha
        exact key X _ _ hv hl hy hp.1
      · simp at ha
    · simp at ha
  · rename_i hu
    split at ha
    · rename_i s e1
      rw [e1] at hx
      have hx := hx.str
      simp only [Option.some.injEq, Prod.mk.injEq] at ha
      obtain ⟨rfl, rfl⟩ := ha
      have h0 := hp.1.1
      have h1 := hp.1.2
      have hlt : n.toNat < s.size := by omega
      refine ⟨.int .u8 s[n.toNat].toNat, ?_, ?_⟩
      · unfold execOp
        simp [ho, hi, hx, Instr.index, run_underlying hu, asIntOf, h0, hlt]
      · simp only [VRel, DRel]
        congr 2
        have hd : n.toNat < s.data.toList.length := by simpa using hlt
        rw [List.getD_eq_getElem?_getD, List.getElem?_eq_getElem hd]
        rfl
    · simp at ha
  · simp at ha

/-! ### Loads -/
def viewD (P : Program) (t : TypeId) (cs : List D) : Option D :=
  match isRow P t with
  | true => some (.agg cs)
  | false => match cs with
    | [x] => some x
    | _ => none

def loadRow (P : Program) (hint : Option D) (t : TypeId) (n sz : Nat) (es : List D) (j c : Nat) : Option (V × List Prop) :=
  match Nat.beq sz n, Nat.beq c 0 with
  | true, true => match hint with
    | some x => some (.d x, [es[j]? = some x, x.isAgg = isRow P t])
    | none => match es[j]? with
      | some x => match x.isAgg, isRow P t with
        | true, true => some (.d x, [])
        | false, false => some (.d x, [])
        | _, _ => none
      | none => none
  | _, _ => match Nat.beq sz 1, Nat.beq c 0 with
    | true, true => match hint with
      | some (.agg ds) => match isRow P t with
        | true => some (.d (.agg ds), [(es.drop j).take n = ds ∧ D.plainL ds = true ∧ ds.length = n])
        | false => none
      | some _ => none
      | none => match Nat.beq ((es.drop j).take n).length n, D.plainL ((es.drop j).take n) with
        | true, true => match viewD P t ((es.drop j).take n) with
          | some x => some (.d x, [])
          | none => none
        | _, _ => none
    | _, _ => match hint with
      | some x => match Nat.beq ((x.cells.drop c).take n).length n with
        | true => match viewD P t ((x.cells.drop c).take n) with
          | some y => some (.d y, [es[j]? = some x])
          | none => none
        | false => none
      | none => match es[j]? with
        | some x => match Nat.beq ((x.cells.drop c).take n).length n with
          | true => match viewD P t ((x.cells.drop c).take n) with
            | some y => some (.d y, [])
            | none => none
          | false => none
        | none => none

def aLoad (P : Program) (h : Hp) (hint : Option D) (t : TypeId) (x : V) : Option (V × List Prop) :=
  match P.underlying t with
  | none => none
  | some _ => match P.info? t with
    | none => none
    | some i => match x with
      | .d (.ptr cs) => match Nat.beq (cs.take i.size).length i.size with
        | true => match viewD P t (cs.take i.size) with
          | some y => some (.d y, [])
          | none => none
        | false => none
      | .ptr id j c => match h id with
        | some (.box cs) => match Nat.beq ((cs.drop (addN j c)).take i.size).length i.size with
          | true => match viewV P t ((cs.drop (addN j c)).take i.size) with
            | some y => some (y, [])
            | none => none
          | false => none
        | some (.row sz es) => loadRow P hint t i.size sz es j c
        | _ => none
      | _ => none

theorem run_loadAt {w : World} {b o : Nat} {t : TypeId} {d : TypeDesc} {i : TypeInfo} (hu : P.underlying t = some d) (hi : P.info? t = some i) {vs : List Value} (hn : vs.length = i.size) (hc : CellsAt w b o vs) :
    (isRow P t = true → (Instr.loadAt t (.pointer (some ⟨b, o, none⟩))).run P w = .ok (.agg vs.toArray) w) ∧
    (isRow P t = false → ∀ v, vs = [v] → (Instr.loadAt t (.pointer (some ⟨b, o, none⟩))).run P w = .ok v w) := by
  constructor
  · intro hr
    have hd : d.isRow = true := by unfold isRow at hr; rw [hu] at hr; cases d <;> first | rfl | simp at hr
    exact run_loadAt_mid w b o t vs d hc hu hd (by simp [hi, hn])
  · intro hr v hv
    subst hv
    have := hc 0 v rfl
    simp [Instr.loadAt, Instr.sureAddr, loadVar, run_isAgg w hu, hr] at this ⊢
    rw [this]

theorem run_loadD {w : World} {N : Nat → Prop} {b o : Nat} {t : TypeId} {d : TypeDesc} {i : TypeInfo} (hu : P.underlying t = some d) (hi : P.info? t = some i) {vs : List Value} {cs : List D} (hc : CellsAt w b o vs)
    (hl : DRelL w N cs vs) (hn : cs.length = i.size) {y : D} (hy : viewD P t cs = some y) :
    ∃ v, (Instr.loadAt t (.pointer (some ⟨b, o, none⟩))).run P w = .ok v w ∧ DRel w N y v := by
  obtain ⟨h1, h2⟩ := run_loadAt (P := P) hu hi (by rw [hl.length, hn]) hc
  unfold viewD at hy
  split at hy
  · rename_i hr
    simp only [Option.some.injEq] at hy
    subst hy
    exact ⟨_, h1 hr, by simp only [DRel]; exact ⟨_, rfl, by simpa using hl⟩⟩
  · rename_i hr
    split at hy
    · rename_i x
      simp only [Option.some.injEq] at hy
      subst hy
      rw [DRelL.cons_iff] at hl
      obtain ⟨v, r, rfl, hx, hnil⟩ := hl
      rw [DRelL.nil_iff] at hnil
      subst hnil
      exact ⟨v, h2 hr v rfl, hx⟩
    · simp at hy

theorem CellsAt.sub {w : World} {b o : Nat} {pre us post : List Value} (h : CellsAt w b o (pre ++ us ++ post)) : CellsAt w b (o + pre.length) us := by
  intro j u hj
  have hlt : j < us.length := (List.getElem?_eq_some_iff.1 hj).1
  have := h (pre.length + j) u (by rw [List.append_assoc, List.getElem?_append_right (by omega), Nat.add_sub_cancel_left, List.getElem?_append_left hlt]; exact hj)
  rw [← Nat.add_assoc] at this
  exact this

theorem CellsAt.dropTake {w : World} {b o : Nat} {vs : List Value} (h : CellsAt w b o vs) (m n : Nat) : CellsAt w b (o + m) ((vs.drop m).take n) := by
  intro j u hj
  rw [List.getElem?_take] at hj
  split at hj
  · rw [List.getElem?_drop] at hj
    have := h (m + j) u hj
    rw [← Nat.add_assoc] at this
    exact this
  · simp at hj

theorem cellsAt_block {w : World} {b : Nat} {cells : Array Value} {elem : TypeId} {fr : Nat × Nat} (h : w.heap[b]? = some (.cells cells elem fr)) : CellsAt w b 0 cells.toList := by
  intro j u hj
  simp only [World.cell?, h]
  simpa using hj

theorem plain_cells {w : World} {N : Nat → Prop} : ∀ {es : List D} {vs : List Value}, D.plainL es = true → DRelE w N 1 es vs → DRelL w N es vs
  | [], _, _, h => by rw [DRelE.nil_iff] at h; subst h; simp [DRelL]
  | d :: ds, _, hp, h => by
    rw [DRelE.cons_iff] at h
    obtain ⟨v, r, rfl, _, h1, h2⟩ := h
    simp only [D.plainL, Bool.and_eq_true, Bool.not_eq_true'] at hp
    rw [(h1.one hp.1).1, List.singleton_append, DRelL.cons_iff]
    exact ⟨v, r, rfl, h1, plain_cells hp.2 h2⟩

/-- A row of the function's own: where its elements lie. -/
theorem BlkRel.rowAt {w : World} {N : Nat → Prop} {ρ : Ren} {h : Hp} {q : Pl} {sz : Nat} {es : List D} (r : BlkRel w N ρ h (some q) (.row sz es)) : ∃ vs, CellsAt w q.b q.o vs ∧ DRelE w N sz es vs := by
  rcases r with ⟨h, _⟩ | ⟨q', cells, elem, pre, vs, post, hq, hb, _, hc, hpre, he⟩
  · cases h
  · obtain rfl := Option.some.inj hq
    refine ⟨vs, ?_, he⟩
    have := cellsAt_block hb
    rw [hc] at this
    have := this.sub
    rw [hpre, Nat.zero_add] at this
    exact this

theorem DRel.isAgg_row {w : World} {N : Nat → Prop} {x : D} {v : Value} (h : DRel w N x v) (hx : x.isAgg = true) : v = .agg v.cells := by
  cases x <;> simp [D.isAgg] at hx
  simp only [DRel] at h
  obtain ⟨cs, rfl, _⟩ := h
  rfl

theorem loadRow_sound {w : World} {N : Nat → Prop} {q : Pl} {t : TypeId} {d : TypeDesc} {i : TypeInfo} (hu : P.underlying t = some d) (hi : P.info? t = some i) {hint : Option D} {sz : Nat} {es : List D} {j c : Nat} {r : V} {p : List Prop}
    (ha : loadRow P hint t i.size sz es j c = some (r, p)) (hp : AllP p) {vs : List Value} (hc : CellsAt w q.b q.o vs) (he : DRelE w N sz es vs) (ρ : Ren) (h : Hp) :
    ∃ v, (Instr.loadAt t (.pointer (some ⟨q.b, q.o + j * sz + c, none⟩))).run P w = .ok v w ∧ VRel w N ρ h r v := by
  -- a whole element
  have whole : ∀ x, es[j]? = some x → sz = i.size → c = 0 → x.isAgg = isRow P t → ∃ v, (Instr.loadAt t (.pointer (some ⟨q.b, q.o + j * sz + c, none⟩))).run P w = .ok v w ∧ VRel w N ρ h (.d x) v := by
    intro x hx hsz h0 hagg
    subst h0
    obtain ⟨v, hv, hd, pre, post, hvs, hpre, _, _⟩ := he.get j x hx
    rw [hvs] at hc
    have hcs := hc.sub
    rw [hpre] at hcs
    obtain ⟨h1, h2⟩ := run_loadAt (P := P) hu hi (by simp [hv, hsz]) hcs
    refine ⟨v, ?_, by simpa only [VRel] using hd⟩
    cases hr : isRow P t with
    | true =>
      rw [hr] at hagg
      have := h1 hr
      rw [Nat.add_zero, this]
      congr 1
      rw [hd.isAgg_row hagg]
      simp [Value.cells]
    | false =>
      rw [hr] at hagg
      rw [Nat.add_zero]
      exact h2 hr v (hd.one hagg).1
  -- a part of an element
  have portion' : ∀ x y, es[j]? = some x → ((x.cells.drop c).take i.size).length = i.size → viewD P t ((x.cells.drop c).take i.size) = some y →
      ∃ v, (Instr.loadAt t (.pointer (some ⟨q.b, q.o + j * sz + c, none⟩))).run P w = .ok v w ∧ VRel w N ρ h (.d y) v := by
    intro x y hx hlen hy
    obtain ⟨v, hv, hd, pre, post, hvs, hpre, _, _⟩ := he.get j x hx
    rw [hvs] at hc
    have hcs := (hc.sub).dropTake c i.size
    rw [hpre] at hcs
    obtain ⟨u, hu', hr⟩ := run_loadD (P := P) hu hi hcs ((hd.cells.drop c).take i.size) hlen hy
    exact ⟨u, hu', by simpa only [VRel] using hr⟩
  unfold loadRow at ha
  split at ha
  · rename_i hs h0
    have hs := beq_eq hs
    have h0 := beq_eq h0
    split at ha
    · simp only [Option.some.injEq, Prod.mk.injEq] at ha
      obtain ⟨rfl, rfl⟩ := ha
      exact whole _ hp.1 hs h0 hp.2.1
    · split at ha
      · rename_i x hx
        split at ha
        · rename_i h1 h2
          simp only [Option.some.injEq, Prod.mk.injEq] at ha
          obtain ⟨rfl, rfl⟩ := ha
          exact whole x hx hs h0 (by rw [h1, h2])
        · rename_i h1 h2
          simp only [Option.some.injEq, Prod.mk.injEq] at ha
          obtain ⟨rfl, rfl⟩ := ha
          exact whole x hx hs h0 (by rw [h1, h2])
        · simp at ha
      · simp at ha
  · split at ha
    · rename_i hs h0
      have hs := beq_eq hs
      have h0 := beq_eq h0
      subst h0
      subst hs
      have range : ∀ ds, (es.drop j).take i.size = ds → D.plainL ds = true → DRelL w N ds ((vs.drop j).take i.size) ∧ CellsAt w q.b (q.o + j) ((vs.drop j).take i.size) := by
        intro ds hds hpl
        refine ⟨?_, hc.dropTake j _⟩
        have := (he.drop j).take i.size
        rw [Nat.mul_one, Nat.mul_one, hds] at this
        exact plain_cells hpl this
      split at ha
      · rename_i ds
        split at ha
        · rename_i hr
          simp only [Option.some.injEq, Prod.mk.injEq] at ha
          obtain ⟨rfl, rfl⟩ := ha
          obtain ⟨h1, h2⟩ := range ds hp.1.1 hp.1.2.1
          obtain ⟨u, hu', hrr⟩ := run_loadD (P := P) hu hi h2 h1 hp.1.2.2 (y := .agg ds) (by unfold viewD; rw [hr])
          exact ⟨u, by rw [Nat.mul_one, Nat.add_zero]; exact hu', by simpa only [VRel] using hrr⟩
        · simp at ha
      · simp at ha
      · split at ha
        · rename_i hlen hpl
          split at ha
          · rename_i x hx
            simp only [Option.some.injEq, Prod.mk.injEq] at ha
            obtain ⟨rfl, rfl⟩ := ha
            obtain ⟨h1, h2⟩ := range _ rfl hpl
            obtain ⟨u, hu', hr⟩ := run_loadD (P := P) hu hi h2 h1 (beq_eq hlen) hx
            exact ⟨u, by rw [Nat.mul_one, Nat.add_zero]; exact hu', by simpa only [VRel] using hr⟩
          · simp at ha
        · simp at ha
    · split at ha
      · rename_i x
        split at ha
        · rename_i hlen
          split at ha
          · rename_i y hy
            simp only [Option.some.injEq, Prod.mk.injEq] at ha
            obtain ⟨rfl, rfl⟩ := ha
            exact portion' x y hp.1 (beq_eq hlen) hy
          · simp at ha
        · simp at ha
      · split at ha
        · rename_i x hx
          split at ha
          · rename_i hlen
            split at ha
            · rename_i y hy
              simp only [Option.some.injEq, Prod.mk.injEq] at ha
              obtain ⟨rfl, rfl⟩ := ha
              exact portion' x y hx (beq_eq hlen) hy
            · simp at ha
          · simp at ha
        · simp at ha

theorem Makes.load {op : Oper} {ty : TypeId} {x : Operand} (ho : op.op = .load ty x) {hint : Option D} {t : Nat → V} {h : Hp} {r : V} {p : List Prop}
    (ha : aLoad P h hint ty (evalV t x) = some (r, p)) (hp : AllP p) : Makes P op t h r := by
  intro E ρ a w rel
  have hx := rel.eval x
  unfold aLoad at ha
  split at ha
  · simp at ha
  rename_i d hu
  split at ha
  · simp at ha
  rename_i i hi
  have done : ∀ v, (Instr.loadAt ty (a.eval x)).run P w = .ok v w → (execOp a.eval op).run P w = .ok (.value v) w := by
    intro v hv
    unfold execOp
    simp [ho, hv]
  split at ha
  · rename_i cs e
    rw [e] at hx
    simp only [VRel, DRel] at hx
    obtain ⟨b, o, vs, hv, hN, hb, hc, hl⟩ := hx
    split at ha
    · rename_i hlen
      split at ha
      · rename_i y hy
        simp only [Option.some.injEq, Prod.mk.injEq] at ha
        obtain ⟨rfl, rfl⟩ := ha
        have hc' := hc.dropTake 0 i.size
        rw [List.drop_zero, Nat.add_zero] at hc'
        obtain ⟨u, hu', hr⟩ := run_loadD (P := P) hu hi hc' (hl.take i.size) (beq_eq hlen) hy
        exact ⟨u, done u (by rw [hv]; exact hu'), by simpa only [VRel] using hr⟩
      · simp at ha
    · simp at ha
  · rename_i id j c e
    rw [e] at hx
    simp only [VRel] at hx
    split at ha
    · rename_i cs hk
      rw [hk] at hx
      simp only [PtrRel] at hx
      obtain ⟨q, hq, hv⟩ := hx
      have hblk := rel.heap id _ hk
      rw [hq] at hblk
      obtain ⟨q', cells, elem, hq', hb, _, _, hl⟩ := hblk
      obtain rfl := Option.some.inj hq'
      split at ha
      · rename_i hlen
        have hlen := beq_eq hlen
        rw [addN_eq] at ha hlen
        have hc := (cellsAt_block hb).dropTake (j + c) i.size
        rw [Nat.zero_add] at hc
        have hsub := (hl.drop (j + c)).take i.size
        obtain ⟨h1, h2⟩ := run_loadAt (P := P) hu hi (by rw [hsub.length, hlen]) hc
        split at ha
        · rename_i y hy
          simp only [Option.some.injEq, Prod.mk.injEq] at ha
          obtain ⟨rfl, rfl⟩ := ha
          unfold viewV at hy
          split at hy
          · rename_i hr
            simp only [Option.some.injEq] at hy
            subst hy
            exact ⟨_, done _ (by rw [hv]; exact h1 hr), VRel.mkAgg (by simpa using hsub)⟩
          · rename_i hr
            split at hy
            · rename_i x' hx'
              simp only [Option.some.injEq] at hy
              subst hy
              rw [hx', VRelL.cons_iff] at hsub
              obtain ⟨v, r', hvr, hxr, hnil⟩ := hsub
              rw [VRelL.nil_iff] at hnil
              subst hnil
              exact ⟨v, done v (by rw [hv]; exact h2 hr v hvr), hxr⟩
            · simp at hy
        · simp at ha
      · simp at ha
    · rename_i sz es hk
      rw [hk] at hx
      simp only [PtrRel] at hx
      obtain ⟨q, hq, hv⟩ := hx
      have hblk := rel.heap id _ hk
      rw [hq] at hblk
      obtain ⟨vs, hc, he⟩ := hblk.rowAt
      obtain ⟨v, hv', hr⟩ := loadRow_sound (P := P) hu hi ha hp hc he ρ h
      exact ⟨v, done v (by rw [hv]; exact hv'), hr⟩
    · simp at ha
  · simp at ha

end Go.Own
