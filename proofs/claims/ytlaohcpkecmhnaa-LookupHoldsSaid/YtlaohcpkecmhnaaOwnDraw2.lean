/-
A region whose order is drawn, walked by computation.
-/
import Derived.Test.YtlaohcpkecmhnaaOwnDraw

set_option linter.all false

namespace Go.Own
open Go (Value IntKind BinOp UnOp TypeId FuncId)

variable {P : Program}

def tmpsOf : List Operand → List Nat
  | [] => []
  | .tmp k :: r => k :: tmpsOf r
  | _ :: r => tmpsOf r

def guardTmps (all : Array Oper) (op : Oper) : List Nat := match op.guard with
  | none => []
  | some (j, _) => match (all[j]?).bind (·.dst) with
    | none => []
    | some d => [d]

def restT (t : List (Nat × V)) : List Nat → List (Nat × V)
  | [] => []
  | k :: r => (k, tmpOf t k) :: restT t r

mutual
def V.ids : V → List Nat → List Nat
  | .undef, l => l
  | .d _, l => l
  | .nils, l => l
  | .nilx _, l => l
  | .agg cs, l => V.idsL cs l
  | .tup cs, l => V.idsL cs l
  | .ref id _ _ _, l => id :: l
  | .ptr id _ _, l => id :: l
  | .fn _ xs ys, l => V.idsL xs (V.idsL ys l)
  | .iface _ x, l => V.ids x l
  | .mapr id, l => id :: l
def V.idsL : List V → List Nat → List Nat
  | [], l => l
  | x :: r, l => V.ids x (V.idsL r l)
end

def reach (h : Hp) : Nat → List Nat → List Nat → List Nat
  | 0, _, done => done
  | _ + 1, [], done => done
  | f + 1, k :: todo, done => match memN done k with
    | true => reach h f todo done
    | false => match h k with
      | some (.box cs) => reach h f (V.idsL cs todo) (k :: done)
      | _ => reach h f todo (k :: done)

def idsT : List (Nat × V) → List Nat
  | [] => []
  | (_, x) :: r => V.ids x (idsT r)

def insideT (ks : List Nat) : List (Nat × V) → Bool
  | [] => true
  | (_, x) :: r => match V.inside ks x with
    | true => insideT ks r
    | false => false

def drawOp (P : Program) (o : Orc) (op : Oper) (g : List Nat) (p : List Prop) (h : List (Nat × Blk)) (rt : List Nat) (t1 : List (Nat × V)) (ks : List Nat) : Option (Rc × List Prop) :=
  match partL (lk h) ks with
  | none => none
  | some hin => match insideT ks t1 with
    | false => none
    | true => match allInside ks hin with
      | false => none
      | true => match aOp P (o.named h op.dst) t1 hin op with
        | none => none
        | some r => match freshOut (lk h) ks r.ups with
          | false => none
          | true => some (⟨op.dst, r.x, r.ups, g ++ rt, ks⟩, p ++ r.vc)

def drawOne (P : Program) (o : Orc) (n : Nat) (all : Array Oper) (op : Oper) (t : List (Nat × V)) (h : List (Nat × Blk)) : Option (Rc × List Prop) :=
  match guardOf o all op t with
  | none => none
  | some (b, p) => match dstOk n op.dst with
    | false => none
    | true => match b with
      | false => some (⟨op.dst, .undef, [], guardTmps all op, []⟩, p)
      | true => drawOp P o op (guardTmps all op) p h (tmpsOf op.op.operands.toList) (restT t (tmpsOf op.op.operands.toList)) (reach (lk h) 200 (idsT (restT t (tmpsOf op.op.operands.toList))) [])

theorem restT_at (t : List (Nat × V)) : ∀ (l : List Nat) (k : Nat), (memN l k = true ∧ tmpOf (restT t l) k = tmpOf t k) ∨ (memN l k = false ∧ tmpOf (restT t l) k = .undef)
  | [], k => .inr ⟨rfl, rfl⟩
  | j :: r, k => by
    simp only [restT, memN]
    rw [tmpOf_cons]
    cases hk : Nat.beq j k with
    | true => have := beq_eq hk; subst this; left; simp
    | false =>
      have : k ≠ j := fun e => by subst e; simp at hk
      rw [upd_other _ _ this]
      exact restT_at t r k

theorem insideT_at {ks : List Nat} : ∀ {l : List (Nat × V)}, insideT ks l = true → ∀ k, (tmpOf l k).inside ks = true
  | [], _, k => rfl
  | (j, x) :: r, h, k => by
    simp only [insideT] at h
    split at h
    · rename_i hx
      rw [tmpOf_cons]
      by_cases e : k = j
      · subst e; rw [upd_same]; exact hx
      · rw [upd_other _ _ e]; exact insideT_at h k
    · simp at h

theorem partL_congr {h h' : Hp} : ∀ {ks : List Nat}, (∀ k, memN ks k = true → h' k = h k) → partL h' ks = partL h ks
  | [], _ => rfl
  | k :: r, hh => by
    simp only [partL]
    rw [hh k (by simp [memN]), partL_congr (ks := r) (fun j hj => hh j (by simp only [memN]; split <;> first | rfl | exact hj))]

theorem freshOut_congr {h h' : Hp} {ks : List Nat} : ∀ {ups : List (Nat × Blk)}, (∀ k, memN (keys ups) k = true → h' k = h k) → freshOut h' ks ups = freshOut h ks ups
  | [], _ => rfl
  | (k, b) :: r, hh => by
    simp only [freshOut]
    rw [hh k (by simp [keys, memN]), freshOut_congr (ups := r) (fun j hj => hh j (by simp only [keys, memN]; split <;> first | rfl | exact hj))]

theorem guard_wanted {o : Orc} {all : Array Oper} {op : Oper} {t : List (Nat × V)} {b : Bool} {p : List Prop} (hg : guardOf o all op t = some (b, p)) (hp : AllP p) {t' : Nat → V} (ht : ∀ k, memN (guardTmps all op) k = true → t' k = tmpOf t k)
    {E : Env} {ρ : Ren} {h : Hp} {a : Act} {w : World} (r : RelAt E ρ t' h a w) : Region.wanted op (yielded all a.tmps) = b := by
  unfold guardOf at hg
  unfold Region.wanted
  unfold guardTmps at ht
  split at hg
  · rename_i hn
    simp only [Option.some.injEq, Prod.mk.injEq] at hg
    rw [hn]
    exact hg.1
  · rename_i j want hn
    rw [hn] at ht ⊢
    split at hg
    · simp at hg
    · rename_i d hd
      split at hg
      · rename_i b' p' hdec
        simp only [Option.some.injEq, Prod.mk.injEq] at hg
        obtain ⟨rfl, rfl⟩ := hg
        have := decideB_val hdec hp
        rw [← ht d (by simp only [hd]; simp [memN])] at this
        simp only [yielded_of r hd this]
        cases b' <;> cases want <;> rfl
      · simp at hg

theorem drawOne_sound {o : Orc} {n : Nat} {all : Array Oper} {op : Oper} {t : List (Nat × V)} {h : List (Nat × Blk)} {r : Rc} {vc : List Prop} (hd : drawOne P o n all op t h = some (r, vc)) (hvc : AllP vc) : Local P n all op r (tmpOf t) (lk h) := by
  unfold drawOne at hd
  split at hd
  · simp at hd
  rename_i b p hg
  split at hd
  · simp at hd
  rename_i hdst
  split at hd
  · simp only [Option.some.injEq, Prod.mk.injEq] at hd
    obtain ⟨rfl, rfl⟩ := hd
    refine ⟨rfl, hdst, fun t' h' ht hh => .inr ⟨fun E ρ a w rel => guard_wanted hg hvc ht rel, rfl, rfl⟩⟩
  · unfold drawOp at hd
    split at hd
    · simp at hd
    rename_i hin hpart
    split at hd
    · simp at hd
    rename_i hins
    split at hd
    · simp at hd
    rename_i hall
    split at hd
    · simp at hd
    rename_i res ha
    split at hd
    · simp at hd
    rename_i hfr
    simp only [Option.some.injEq, Prod.mk.injEq] at hd
    obtain ⟨rfl, rfl⟩ := hd
    rw [AllP.app] at hvc
    refine ⟨rfl, hdst, fun t' h' ht hh => .inl ⟨fun E ρ a w rel => guard_wanted hg hvc.1 (fun k hk => ht k ?_) rel, ?_⟩⟩
    · simp only [memN_app]
      rw [hk]; rfl
    · have s := aOp_sound ha hvc.2
      have hks : ∀ id, memN (reach (lk h) 200 (idsT (restT t (tmpsOf op.op.operands.toList))) []) id = true → h' id = lk h id := fun id hid => hh id (by
        simp only [Rc.ah, memN_app]; rw [hid]; simp)
      have hup : ∀ id, memN (keys res.ups) id = true → h' id = lk h id := fun id hid => hh id (by
        simp only [Rc.ah, memN_app]; rw [hid]; rfl)
      refine StepsW.frame (ks := reach (lk h) 200 (idsT (restT t (tmpsOf op.op.operands.toList))) []) (hin := hin) ?_ hall ?_ ?_ s
      · rw [partL_congr hks]; exact hpart
      · rw [freshOut_congr hup]; exact hfr
      · intro k
        rcases restT_at t (tmpsOf op.op.operands.toList) k with ⟨h1, h2⟩ | ⟨_, h2⟩
        · right
          have ht' : t' k = tmpOf t k := ht k (by simp only [memN_app]; rw [h1]; simp)
          rw [h2, ht']
          refine ⟨rfl, ?_⟩
          rw [← h2]
          exact insideT_at hins k
        · exact .inl h2

def drawOps (P : Program) (o : Orc) (n : Nat) (all : Array Oper) : List Oper → List (Nat × V) → List (Nat × Blk) → Option (List Rc × List (Nat × V) × List (Nat × Blk) × List Prop)
  | [], t, h => some ([], t, h, [])
  | op :: ops, t, h => match drawOne P o n all op t h with
    | none => none
    | some (r, p) => match drawOps P o n all ops (putL t r.dst r.x) (r.ups ++ h) with
      | none => none
      | some (rs, t', h', q) => some (r :: rs, t', h', app3 [] p q)

theorem ovH_lk (ups h : List (Nat × Blk)) : ovH ups (lk h) = lk (ups ++ h) := by
  funext id
  rw [lk_append]
  unfold ovH
  cases lk ups id <;> rfl

theorem drawOps_sound {o : Orc} {n : Nat} {all : Array Oper} : ∀ (ops : List Oper) (t : List (Nat × V)) (h : List (Nat × Blk)) (rs : List Rc) (t' : List (Nat × V)) (h' : List (Nat × Blk)) (vc : List Prop),
    drawOps P o n all ops t h = some (rs, t', h', vc) → AllP vc → Chain P n all ops rs (tmpOf t) (lk h) ∧ txtT rs (tmpOf t) = tmpOf t' ∧ txtH rs (lk h) = lk h'
  | [], t, h, rs, t', h', vc, e, hvc => by
    simp only [drawOps, Option.some.injEq, Prod.mk.injEq] at e
    obtain ⟨rfl, rfl, rfl, rfl⟩ := e
    exact ⟨.nil, rfl, rfl⟩
  | op :: ops, t, h, rs, t', h', vc, e, hvc => by
    simp only [drawOps] at e
    split at e
    · simp at e
    rename_i r p hr
    split at e
    · simp at e
    rename_i rs' t2 h2 q hrest
    simp only [Option.some.injEq, Prod.mk.injEq] at e
    obtain ⟨rfl, rfl, rfl, rfl⟩ := e
    rw [app3_eq, List.nil_append, AllP.app] at hvc
    obtain ⟨c, e1, e2⟩ := drawOps_sound ops _ _ _ _ _ _ hrest hvc.2
    rw [putL_eq] at c e1
    rw [← ovH_lk] at c e2
    exact ⟨.cons (drawOne_sound hr hvc.1) c, e1, e2⟩

theorem left_none : ∀ (n : Nat), left n (fun _ => false) = n
  | 0 => rfl
  | n + 1 => by simp [left, left_none n]

theorem T.draw {n id : Nat} {ops : Array Oper} {o : Orc} {s : St} {rs : List Rc} {t' : List (Nat × V)} {h' : List (Nat × Blk)} {vc : List Prop} (hm : P.follows .mixedOrders = true) (hr : drawOps P o n ops ops.toList s.t s.h = some (rs, t', h', vc)) (hvc : AllP vc)
    (ho : orderOk ops.toList rs [] 0 = true) : T P n (.region id ops true) s .normal ⟨t', h'⟩ := by
  intro E ρ a w hn r Q hQ
  obtain ⟨c, e1, e2⟩ := drawOps_sound _ _ _ _ _ _ _ hr hvc
  refine wp_region_any hm ?_
  have hl : (fun i => (Array.replicate ops.size false).getD i false) = (fun _ : Nat => false) := by
    funext i
    simp only [Array.getD_eq_getD_getElem?, Array.getElem?_replicate]
    split <;> rfl
  have v0 : ∀ {A : Type} (L : List (Option A)) (i : Nat) (z : A), val L (fun _ => false) i z = z := fun L i z => val_none L _ i z (fun _ _ _ => rfl)
  refine wpAny_of hn.1 c ho ?_ ops.size (Array.replicate ops.size false) ρ a _ (by simp) ?_ ?_ ?_
  · intro ρ' a' w' r'
    rw [e1, e2] at r'
    exact hQ ρ' a' w' .normal trivial r'
  · rw [hl, left_none]
    exact Nat.le_refl _
  · intro i op hop h
    have : (Array.replicate ops.size false).getD i false = false := congrFun hl i
    rw [this] at h; cases h
  · rw [hl]
    have e3 : stT rs (fun _ => false) (tmpOf s.t) = tmpOf s.t := by funext k; exact v0 _ _ _
    have e4 : stH rs (fun _ => false) (lk s.h) = lk s.h := by funext k; exact v0 _ _ _
    rw [e3, e4]
    exact r.drew rfl rfl rfl rfl

end Go.Own
