/-
Operations that make or write memory: variables, stores, slices that are made.
-/
import Derived.Test.YtlaohcpkecmhnaaOwnOps5

set_option linter.all false

namespace Go.Own
open Go (Value IntKind BinOp UnOp TypeId)

variable {P : Program}

/-- The operation comes to this value, and leaves the function's own blocks so. -/
def Steps (P : Program) (op : Oper) (t : Nat → V) (h : Hp) (x : V) (h' : Hp) : Prop :=
  ∀ (E : Env) (ρ : Ren) (a : Act) (w : World), RelAt E ρ t h a w → ∃ n w' ρ', (execOp a.eval op).run P w = .ok n w' ∧ RelAt E ρ' t h' a w' ∧
    ((∃ v, n = .value v ∧ VRel w' (E.NN ρ' h') ρ' h' x v) ∨ (n = .skip ∧ x = .undef))

theorem Makes.steps {op : Oper} {t : Nat → V} {h : Hp} {x : V} (m : Makes P op t h x) : Steps P op t h x h := by
  intro E ρ a w r
  obtain ⟨v, h1, h2⟩ := m E ρ a w r
  exact ⟨_, w, ρ, h1, r, .inl ⟨v, rfl, h2⟩⟩

theorem upd_upd {α : Type} (f : Nat → α) (k : Nat) (x y : α) : upd (upd f k x) k y = upd f k y := by
  funext j
  simp only [upd]
  split <;> rfl

/-! ### A block that is written -/
theorem RelAt.write {E : Env} {ρ : Ren} {t : Nat → V} {h : Hp} {a : Act} {w : World} (r : RelAt E ρ t h a w) {id : Nat} {blk blk' : Blk} (hid : h id = some blk) (hl : live (some blk) = true) (hl' : live (some blk') = true) {q : Pl} (hq : ρ id = some q)
    {cells cells' : Array Value} {elem : TypeId} (hb : w.heap[q.b]? = some (.cells cells elem (0, 0))) (hle : BlkLe (some blk) (some blk'))
    (hrel : ∀ (w' : World) (N' : Nat → Prop), KeepV w w' (E.NN ρ h) N' ρ ρ h (upd h id (some blk')) → w'.heap[q.b]? = some (.cells cells' elem (0, 0)) → BlkRel w' N' ρ (upd h id (some blk')) (some q) blk') :
    RelAt E ρ t (upd h id (some blk')) a (w.setRow q.b cells') := by
  have hmine : Mine ρ h q.b := ⟨id, q, by rw [hid]; exact hl, hq, rfl⟩
  have hother : ∀ b, b ≠ q.b → (w.setRow q.b cells').heap[b]? = w.heap[b]? := fun b hb => setRow_other w q.b b cells' hb
  have hthis : (w.setRow q.b cells').heap[q.b]? = some (.cells cells' elem (0, 0)) := setRow_heap w q.b cells cells' elem (0, 0) hb
  have hlive : ∀ j, live (upd h id (some blk') j) = live (h j) := by
    intro j
    by_cases hj : j = id
    · subst hj; rw [upd_same, hid, hl, hl']
    · rw [upd_other _ _ hj]
  refine (r.step (ρ' := ρ) (h' := upd h id (some blk')) (by simp) (fun b _ hm => hother b (fun e => hm (e ▸ hmine))) (fun j => ?_) (fun _ _ _ => rfl) (fun j q' hj hq' => ?_) ?_ (fun k j b hjb => ?_) rfl rfl rfl).1
  · by_cases hj : j = id
    · subst hj; rw [upd_same, hid]; exact hle
    · rw [upd_other _ _ hj]; exact BlkLe.refl _
  · rw [hlive] at hj
    exact ⟨by simpa using r.lt j q' hj hq', .inr ⟨j, q', hj, hq', rfl⟩⟩
  · intro j j' q1 q2 hj hj' h1 h2 he
    rw [hlive] at hj hj'
    exact r.inj j j' q1 q2 hj hj' h1 h2 he
  · by_cases hj : j = id
    · subst hj
      rw [upd_same] at hjb
      obtain rfl := Option.some.inj hjb
      rw [hq]
      exact hrel _ _ k hthis
    · rw [upd_other _ _ hj] at hjb
      refine r.others hjb k (fun q' hq' hlj => hother _ (fun e => hj ?_))
      exact r.inj j id q' q hlj (by rw [hid]; exact hl) hq' hq e

/-! ### New variables -/
def chunks (m : Nat) : Nat → List D → List D
  | 0, _ => []
  | n + 1, ds => .agg (ds.take m) :: chunks m n (ds.drop m)

theorem DRelE.chunks {w : World} {N : Nat → Prop} {m : Nat} : ∀ (n : Nat) (ds : List D) (vs : List Value), DRelL w N ds vs → ds.length = n * m → DRelE w N m (chunks m n ds) vs
  | 0, ds, vs, h, hl => by
    have : ds = [] := List.eq_nil_of_length_eq_zero (by simpa using hl)
    subst this
    rw [DRelL.nil_iff] at h
    subst h
    simp [Own.chunks, DRelE]
  | n + 1, ds, vs, h, hl => by
    have hv := h.length
    rw [Own.chunks, DRelE.cons_iff]
    refine ⟨.agg (vs.take m).toArray, vs.drop m, by simp [Value.cells], ?_, ?_, DRelE.chunks n _ _ (h.drop m) (by rw [List.length_drop, hl, Nat.add_mul]; omega)⟩
    · simp only [Value.cells, List.size_toArray, List.length_take]
      rw [hv, hl, Nat.add_mul]
      omega
    · simp only [DRel]
      exact ⟨_, rfl, by simpa using h.take m⟩

theorem DRelE.plain {w : World} {N : Nat → Prop} : ∀ {ds : List D} {vs : List Value}, D.plainL ds = true → DRelL w N ds vs → DRelE w N 1 ds vs
  | [], _, _, h => by rw [DRelL.nil_iff] at h; subst h; simp [DRelE]
  | d :: ds, _, hp, h => by
    rw [DRelL.cons_iff] at h
    obtain ⟨v, r, rfl, h1, h2⟩ := h
    simp only [D.plainL, Bool.and_eq_true, Bool.not_eq_true'] at hp
    have := (h1.one hp.1).1
    rw [DRelE.cons_iff]
    exact ⟨v, r, by rw [this]; rfl, by have := congrArg List.length this; simpa using this, h1, DRelE.plain hp.2 h2⟩

def newBlk (P : Program) (t : TypeId) (cs : List V) : Blk :=
  match P.underlying t with
  | some (.array n e) => match allD cs with
    | none => .box cs
    | some ds => match P.info? e with
      | none => .box cs
      | some ie => match isRow P e with
        | false => match D.plainL ds with
          | true => .row 1 ds
          | false => .box cs
        | true => match Nat.beq ds.length (n * ie.size) with
          | true => .row ie.size (chunks ie.size n ds)
          | false => .box cs
  | _ => .box cs

theorem newBlk_live (P : Program) (t : TypeId) (cs : List V) : live (some (newBlk P t cs)) = true := by
  unfold newBlk
  repeat' split
  all_goals rfl

theorem newBlk_rel {t : TypeId} {cs : List V} {w : World} {N : Nat → Prop} {ρ : Ren} {h : Hp} {X : Array Value} {b : Nat} {elem : TypeId} (hb : w.heap[b]? = some (.cells X elem (0, 0))) (r : VRelL w N ρ h cs X.toList) :
    BlkRel w N ρ h (some ⟨b, 0, X.size⟩) (newBlk P t cs) := by
  have box : BlkRel w N ρ h (some ⟨b, 0, X.size⟩) (.box cs) := ⟨_, X, elem, rfl, hb, rfl, rfl, r⟩
  have row : ∀ sz es, DRelE w N sz es X.toList → BlkRel w N ρ h (some ⟨b, 0, X.size⟩) (.row sz es) := fun sz es he =>
    .inr ⟨_, X, elem, [], X.toList, [], rfl, hb, rfl, by simp, rfl, he⟩
  unfold newBlk
  split
  · split
    · exact box
    · rename_i ds hd
      split
      · exact box
      · split
        · split
          · rename_i hp
            exact row _ _ (DRelE.plain hp (r.allD hd))
          · exact box
        · split
          · rename_i hn
            exact row _ _ (DRelE.chunks _ _ _ (r.allD hd) (beq_eq hn))
          · exact box
  · exact box

theorem newBlk_ptr {t : TypeId} {cs : List V} {w : World} {N : Nat → Prop} {ρ : Ren} {h : Hp} {b n id : Nat} : VRel w N (upd ρ id (some ⟨b, 0, n⟩)) (upd h id (some (newBlk P t cs))) (.ptr id 0 0) (.pointer (some ⟨b, 0, none⟩)) := by
  simp only [VRel, upd_same]
  have key : ∀ blk : Blk, (∀ ks vs, blk ≠ .map ks vs) → blk ≠ .dead → PtrRel (some ⟨b, 0, n⟩) (some blk) 0 0 (.pointer (some ⟨b, 0, none⟩)) := by
    intro blk h1 h2
    cases blk with
    | dead => exact absurd rfl h2
    | map ks vs => exact absurd rfl (h1 ks vs)
    | row sz es => simp only [PtrRel]; exact ⟨_, rfl, by simp⟩
    | box cs => simp only [PtrRel]; exact ⟨_, rfl, by simp⟩
  apply key
  · intro ks vs hc
    unfold newBlk at hc
    repeat' split at hc
    all_goals cases hc
  · intro hc
    unfold newBlk at hc
    repeat' split at hc
    all_goals cases hc

/-- A new variable with these cells. -/
theorem RelAt.newVar {E : Env} {ρ : Ren} {t : Nat → V} {h : Hp} {a : Act} {w : World} (r : RelAt E ρ t h a w) {id : Nat} (hid : h id = none) (ty : TypeId) {cs : List V} {X : Array Value} (hr : VRelL w (E.NN ρ h) ρ h cs X.toList) :
    RelAt E (upd ρ id (some ⟨w.heap.size, 0, X.size⟩)) t (upd h id (some (newBlk P ty cs))) a (w.alloc (.cells X ty)) :=
  (r.new (w' := w.alloc (.cells X ty)) hid (.cells X ty) X.size (newBlk P ty cs) rfl rfl rfl rfl (fun k hb => newBlk_rel hb (VRelL.keep k _ _ hr))).1

def aAlloc (P : Program) (t : TypeId) : Option Blk :=
  match P.info? t with
  | none => none
  | some i => match i.zero with
    | none => none
    | some z => some (newBlk P t (z.cells.toList.map cellV))

theorem Steps.alloc {op : Oper} {ty : TypeId} (ho : op.op = .alloc ty) {t : Nat → V} {h : Hp} {id : Nat} {blk : Blk} (ha : aAlloc P ty = some blk) (hid : h id = none) : Steps P op t h (.ptr id 0 0) (upd h id (some blk)) := by
  intro E ρ a w r
  unfold aAlloc at ha
  split at ha
  · simp at ha
  rename_i i hi
  split at ha
  · simp at ha
  rename_i z hz
  simp only [Option.some.injEq] at ha
  subst ha
  refine ⟨.value (.pointer (some ⟨w.heap.size, 0, none⟩)), w.alloc (.cells z.cells ty), _, ?_, r.newVar hid ty (cellsV_rel _ _ _ _ _), .inl ⟨_, rfl, newBlk_ptr⟩⟩
  unfold execOp
  simp [ho, Instr.alloc, zeroValue, typeInfo, hi, hz, newVar, newRow]

def aBox (P : Program) (t : TypeId) (x : V) : Option Blk :=
  match x.cells with
  | none => none
  | some cs => some (newBlk P t cs)

theorem Steps.box {op : Oper} {ty : TypeId} {x : Operand} (ho : op.op = .box ty x) {t : Nat → V} {h : Hp} {id : Nat} {blk : Blk} (ha : aBox P ty (evalV t x) = some blk) (hid : h id = none) : Steps P op t h (.ptr id 0 0) (upd h id (some blk)) := by
  intro E ρ a w r
  have hx := r.eval x
  unfold aBox at ha
  split at ha
  · simp at ha
  rename_i cs hcs
  simp only [Option.some.injEq] at ha
  subst ha
  refine ⟨.value (.pointer (some ⟨w.heap.size, 0, none⟩)), w.alloc (.cells (a.eval x).cells ty), _, ?_, r.newVar hid ty (hx.cells hcs), .inl ⟨_, rfl, newBlk_ptr⟩⟩
  unfold execOp
  simp [ho, Instr.box, newVar, newRow]

/-! ### Stores -/
def V.oneV : V → Bool
  | .d x => !x.isAgg
  | .undef => false
  | .agg _ => false
  | .tup _ => false
  | _ => true

theorem VRel.oneV {w : World} {N : Nat → Prop} {ρ : Ren} {h : Hp} {x : V} {v : Value} (r : VRel w N ρ h x v) (hx : x.oneV = true) : v.oneCell' = true := by
  cases x <;> simp [V.oneV] at hx
  case d x => simp only [VRel] at r; exact (r.one hx).2
  case nils => simp only [VRel] at r; obtain ⟨_, rfl⟩ := r; rfl
  case nilx => simp only [VRel] at r; obtain ⟨_, _, rfl, _⟩ := r; rfl
  case ref => simp only [VRel] at r; exact r.one
  case ptr => simp only [VRel] at r; exact r.one
  case mapr => simp only [VRel] at r; exact r.one
  case fn => simp only [VRel] at r; obtain ⟨_, _, rfl, _⟩ := r; rfl
  case iface => simp only [VRel] at r; obtain ⟨_, rfl, _⟩ := r; rfl

def allOne : List V → Bool
  | [] => true
  | x :: r => x.oneV && allOne r

theorem VRelL.allOne {w : World} {N : Nat → Prop} {ρ : Ren} {h : Hp} : ∀ {xs : List V} {vs : List Value}, Own.allOne xs = true → VRelL w N ρ h xs vs → ∀ v ∈ vs, v.oneCell' = true
  | [], _, _, r => by rw [VRelL.nil_iff] at r; subst r; simp
  | x :: xs, _, ha, r => by
    rw [VRelL.cons_iff] at r
    obtain ⟨v, q, rfl, h1, h2⟩ := r
    simp only [Own.allOne, Bool.and_eq_true] at ha
    intro u hu
    rcases List.mem_cons.1 hu with rfl | hu
    · exact h1.oneV ha.1
    · exact VRelL.allOne ha.2 h2 u hu

def storeRow (hint : Option D) (n sz : Nat) (es : List D) (j c : Nat) (x : D) (ds : List D) : Option (List D × List Prop) :=
  match Nat.beq sz n, Nat.beq c 0 with
  | true, true => some (es.set j x, [j < es.length])
  | _, _ => match Nat.beq sz 1, Nat.beq c 0 with
    | true, true => match D.plainL ds with
      | true => some (splice es j ds, [j + n ≤ es.length])
      | false => none
    | _, _ => match (match hint with | some y => some y | none => es[j]?) with
      | some (.agg fs) => match Nat.ble (c + n) fs.length with
        | true => some (es.set j (.agg (splice fs c ds)), [es[j]? = some (.agg fs)])
        | false => none
      | _ => none

def aStore (P : Program) (h : Hp) (hint : Option D) (t : TypeId) (x v : V) : Option (Nat × Blk × List Prop) :=
  match P.info? t with
  | none => none
  | some i => match v.cells with
    | none => none
    | some cs => match Nat.beq cs.length i.size, allOne cs with
      | true, true => match x with
        | .ptr id j c => match h id with
          | some (.box bs) => match Nat.ble (addN j c + i.size) bs.length with
            | true => some (id, .box (splice bs (addN j c) cs), [])
            | false => none
          | some (.row sz es) => match v, allD cs with
            | .d y, some ds => match storeRow hint i.size sz es j c y ds with
              | some (es', p) => some (id, .row sz es', p)
              | none => none
            | _, _ => none
          | _ => none
        | _ => none
      | _, _ => none

theorem run_storeAt {w : World} {b o : Nat} {t : TypeId} {i : TypeInfo} {v : Value} (hi : P.info? t = some i) (hn : v.cells.size = i.size) (h1 : ∀ u ∈ v.cells.toList, u.oneCell' = true) {cells : Array Value} {elem : TypeId}
    (hb : w.heap[b]? = some (.cells cells elem (0, 0))) (hfit : o + i.size ≤ cells.size) :
    (Instr.storeAt t (.pointer (some ⟨b, o, none⟩)) v).run P w = .ok () (w.setRow b (splice cells.toList o v.cells.toList).toArray) := by
  have := run_storeCells_at P b o elem v.cells.toList 0 cells w hb (by simp; omega) h1
  simp only [Nat.add_zero] at this
  simp [Instr.storeAt, Instr.sureAddr, storeVar, sizeOf, typeInfo, hi, hn, this, splice]

theorem splice_length {α : Type} {cs vs : List α} {o : Nat} (h : o + vs.length ≤ cs.length) : (splice cs o vs).length = cs.length := by
  simp only [splice, List.length_append, List.length_take, List.length_drop]
  omega

theorem splice_inner {α : Type} (pre us post vs : List α) (c : Nat) (h : c + vs.length ≤ us.length) : splice (pre ++ us ++ post) (pre.length + c) vs = pre ++ splice us c vs ++ post := by
  unfold splice
  have e1 : (pre ++ us ++ post).take (pre.length + c) = pre ++ us.take c := by
    rw [List.append_assoc, List.take_append]
    rw [List.take_of_length_le (by omega)]
    congr 1
    rw [Nat.add_sub_cancel_left, List.take_append_of_le_length (by omega)]
  have e2 : (pre ++ us ++ post).drop (pre.length + c + vs.length) = us.drop (c + vs.length) ++ post := by
    rw [List.append_assoc, List.drop_append]
    rw [List.drop_of_length_le (by omega), List.nil_append]
    rw [show pre.length + c + vs.length - pre.length = c + vs.length by omega]
    rw [List.drop_append_of_le_length (by omega)]
  rw [e1, e2]
  simp [List.append_assoc]

theorem splice_mid {α : Type} (pre us post vs : List α) (h : vs.length = us.length) : splice (pre ++ us ++ post) pre.length vs = pre ++ vs ++ post := by
  have := splice_inner pre us post vs 0 (by omega)
  rw [Nat.add_zero] at this
  rw [this]
  congr 2
  simp [splice, h]

theorem DRelL.splice {w : World} {N : Nat → Prop} {xs ys : List D} {vs us : List Value} {off : Nat} (r : DRelL w N xs vs) (r' : DRelL w N ys us) : DRelL w N (splice xs off ys) (splice vs off us) := by
  unfold Own.splice
  rw [r'.length]
  exact ((r.take off).append r').append (r.drop _)

theorem storeRow_sound {n sz : Nat} {es es' : List D} {j c : Nat} {x : D} {ds : List D} {hint : Option D} {p : List Prop} (hdn : ds.length = n) (ha : storeRow hint n sz es j c x ds = some (es', p)) (hp : AllP p) :
    es'.length = es.length ∧ ∀ (w w' : World) (N N' : Nat → Prop) (v : Value) (pre vs post : List Value), Keep w w' N N' → DRel w N x v → DRelL w N ds v.cells.toList → v.cells.size = n → DRelE w N sz es vs →
      pre.length + j * sz + c + n ≤ (pre ++ vs ++ post).length ∧ ∃ vs', splice (pre ++ vs ++ post) (pre.length + j * sz + c) v.cells.toList = pre ++ vs' ++ post ∧ DRelE w' N' sz es' vs' := by
  have part : ∀ fs, es[j]? = some (.agg fs) → c + n ≤ fs.length → es' = es.set j (.agg (splice fs c ds)) →
      es'.length = es.length ∧ ∀ (w w' : World) (N N' : Nat → Prop) (v : Value) (pre vs post : List Value), Keep w w' N N' → DRel w N x v → DRelL w N ds v.cells.toList → v.cells.size = n → DRelE w N sz es vs →
      pre.length + j * sz + c + n ≤ (pre ++ vs ++ post).length ∧ ∃ vs', splice (pre ++ vs ++ post) (pre.length + j * sz + c) v.cells.toList = pre ++ vs' ++ post ∧ DRelE w' N' sz es' vs' := by
    intro fs hj hc he
    subst he
    refine ⟨by simp, ?_⟩
    intro w w' N N' v pre vs post k hd hl hv hrow
    obtain ⟨u, hu, hud, p1, p2, rfl, hp1, hr1, hr2⟩ := hrow.get j _ hj
    have hul := hud.cells.length
    simp only [D.cells] at hul
    have hdl := hl.length
    have hvl : v.cells.toList.length = n := by simpa using hv
    have hjl : j < es.length := (List.getElem?_eq_some_iff.1 hj).1
    refine ⟨by simp only [List.length_append]; omega, ?_⟩
    have e : pre ++ (p1 ++ u.cells.toList ++ p2) ++ post = (pre ++ p1) ++ u.cells.toList ++ (p2 ++ post) := by simp [List.append_assoc]
    have hpl : pre.length + j * sz + c = (pre ++ p1).length + c := by rw [List.length_append, hp1]
    rw [e, hpl, splice_inner _ _ _ _ _ (by omega)]
    refine ⟨p1 ++ splice u.cells.toList c v.cells.toList ++ p2, by simp [List.append_assoc], ?_⟩
    have hnew : DRel w' N' (.agg (splice fs c ds)) (.agg (splice u.cells.toList c v.cells.toList).toArray) := by
      simp only [DRel]
      refine ⟨_, rfl, ?_⟩
      have h1 := hud.cells
      simp only [D.cells] at h1
      simpa using DRelL.keep k _ _ (h1.splice hl)
    have hsz : (Value.agg (splice u.cells.toList c v.cells.toList).toArray).cells.size = sz := by
      show (splice u.cells.toList c v.cells.toList).toArray.size = sz
      rw [List.size_toArray, splice_length (by omega)]
      simpa using hu
    exact DRelE.set (v := .agg (splice u.cells.toList c v.cells.toList).toArray) (DRelE.keep k _ _ _ hr1) hsz hnew (DRelE.keep k _ _ _ hr2) hjl
  unfold storeRow at ha
  split at ha
  · rename_i hs h0
    have hs := beq_eq hs
    have h0 := beq_eq h0
    subst h0
    simp only [Option.some.injEq, Prod.mk.injEq] at ha
    obtain ⟨rfl, rfl⟩ := ha
    have hj := hp.1
    refine ⟨by simp, ?_⟩
    intro w w' N N' v pre vs post k hd hl hv hrow
    obtain ⟨u, hu, hud, p1, p2, rfl, hp1, hr1, hr2⟩ := hrow.get j _ (List.getElem?_eq_getElem hj)
    have e : pre ++ (p1 ++ u.cells.toList ++ p2) ++ post = (pre ++ p1) ++ u.cells.toList ++ (p2 ++ post) := by simp [List.append_assoc]
    have hul : u.cells.toList.length = sz := by simpa using hu
    have hvl : v.cells.toList.length = n := by simpa using hv
    refine ⟨by simp only [List.length_append]; omega, ?_⟩
    have hpl : pre.length + j * sz + 0 = (pre ++ p1).length := by rw [List.length_append, hp1]; rfl
    rw [e, hpl, splice_mid _ _ _ _ (by omega)]
    refine ⟨p1 ++ v.cells.toList ++ p2, by simp [List.append_assoc], ?_⟩
    exact DRelE.set (DRelE.keep k _ _ _ hr1) (by omega) (DRel.keep k _ _ hd) (DRelE.keep k _ _ _ hr2) hj
  · split at ha
    · rename_i hs h0
      have hs := beq_eq hs
      have h0 := beq_eq h0
      subst h0
      subst hs
      split at ha
      · rename_i hpl
        simp only [Option.some.injEq, Prod.mk.injEq] at ha
        obtain ⟨rfl, rfl⟩ := ha
        have hj := hp.1
        constructor
        · exact splice_length (by omega)
        · intro w w' N N' v pre vs post k hd hl hv hrow
          have hvs := hrow.length
          have hvl : v.cells.toList.length = n := by simpa using hv
          refine ⟨by simp only [List.length_append]; omega, splice vs j v.cells.toList, ?_, ?_⟩
          · rw [Nat.mul_one, Nat.add_zero, splice_inner _ _ _ _ _ (by omega)]
          · unfold splice
            rw [hvl, hdn]
            have h1 := hrow.take j
            have h2 := hrow.drop (j + n)
            rw [Nat.mul_one] at h1 h2
            exact ((DRelE.keep k _ _ _ h1).append (DRelE.plain hpl (DRelL.keep k _ _ hl))).append (DRelE.keep k _ _ _ h2)
      · simp at ha
    · split at ha
      · rename_i fs hy
        split at ha
        · rename_i hb
          simp only [Option.some.injEq, Prod.mk.injEq] at ha
          obtain ⟨rfl, rfl⟩ := ha
          exact part fs hp.1 (Nat.le_of_ble_eq_true hb) rfl
        · simp at ha
      · simp at ha

end Go.Own
