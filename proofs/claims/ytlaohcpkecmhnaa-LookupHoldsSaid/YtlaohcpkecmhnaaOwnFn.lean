/-
From the way through a function's code to its contract.
-/
import Derived.Test.YtlaohcpkecmhnaaOwnRen
import Derived.Shelf.Abstract

set_option linter.all false

namespace Go.Own
open Go (Value IntKind BinOp UnOp TypeId FuncId)

variable {P : Program}

/-! ### Results -/
def resOne (P : Program) (o : Orc) (t : List (Nat × V)) (h : List (Nat × Blk)) : ResultVar → Option (V × List Prop)
  | .tmp k => some (tmpOf t k, [])
  | .cell k ty => aLoad P (lk h) (lk o.val k) ty (tmpOf t k)

def resAll (P : Program) (o : Orc) (t : List (Nat × V)) (h : List (Nat × Blk)) : List ResultVar → Option (List V × List Prop)
  | [] => some ([], [])
  | r :: rs => match resOne P o t h r with
    | none => none
    | some (x, p) => match resAll P o t h rs with
      | none => none
      | some (xs, q) => some (x :: xs, p ++ q)

def resV : List V → V
  | [] => .tup []
  | [x] => x
  | xs => .tup xs

theorem asAddr_of_sure {ty : TypeId} {v u : Value} {w w' : World} (h : (Instr.loadAt ty v).run P w = .ok u w') : (do loadVar ty (← asAddr v) : Sem Value).run P w = .ok u w' := by
  unfold Instr.loadAt Instr.sureAddr at h
  unfold asAddr
  cases v with
  | pointer a => cases a with
    | none => simp [stuck] at h
    | some a => exact h
  | _ => simp [stuck] at h

def ResF (a : Act) (f : ResultVar → Sem Value) : Prop := (∀ u, f (.tmp u) = pure (a.tmps.getD u Go.undef)) ∧ ∀ ad ty, f (.cell ad ty) = (do loadVar ty (← asAddr (a.tmps.getD ad Go.undef)))

theorem resOne_sound {o : Orc} {t : List (Nat × V)} {h : List (Nat × Blk)} {r : ResultVar} {x : V} {p : List Prop} (hr : resOne P o t h r = some (x, p)) (hp : AllP p) {E : Env} {ρ : Ren} {a : Act} {w : World} (rel : RelAt E ρ (tmpOf t) (lk h) a w) :
    ∃ v, (∀ f, ResF a f → (f r).run P w = .ok v w) ∧ VRel w (E.NN ρ (lk h)) ρ (lk h) x v := by
  cases r with
  | tmp k =>
    simp only [resOne, Option.some.injEq, Prod.mk.injEq] at hr
    obtain ⟨rfl, rfl⟩ := hr
    exact ⟨_, fun f hf => by rw [hf.1]; rfl, rel.tmps k⟩
  | cell k ty =>
    simp only [resOne] at hr
    have m := Makes.load (P := P) (op := { dst := none, op := .load ty (.tmp k), type := 0, pos := "", after := #[], guard := none }) (t := tmpOf t) (h := lk h) rfl (hint := lk o.val k) (r := x) hr hp
    obtain ⟨v, hv, hx⟩ := m E ρ a w rel
    refine ⟨v, fun f hf => ?_, hx⟩
    rw [hf.2]
    apply asAddr_of_sure
    unfold execOp at hv
    simp only [Sem.run_bind] at hv
    have he : a.eval (.tmp k) = a.tmps.getD k Go.undef := rfl
    rw [he] at hv
    cases hl : (Instr.loadAt ty (a.tmps.getD k Go.undef)).run P w with
    | ok u w' =>
      rw [hl] at hv
      simp at hv
      obtain ⟨rfl, rfl⟩ := hv
      rfl
    | halt e w' => rw [hl] at hv; simp at hv

theorem resAll_sound {o : Orc} {t : List (Nat × V)} {h : List (Nat × Blk)} {E : Env} {ρ : Ren} {a : Act} {w : World} (rel : RelAt E ρ (tmpOf t) (lk h) a w) :
    ∀ (rs : List ResultVar) (xs : List V) (p : List Prop), resAll P o t h rs = some (xs, p) → AllP p → ∃ vs, (∀ f, ResF a f → (rs.mapM f).run P w = .ok vs w) ∧ VRelL w (E.NN ρ (lk h)) ρ (lk h) xs vs
  | [], xs, p, e, hp => by
    simp only [resAll, Option.some.injEq, Prod.mk.injEq] at e
    obtain ⟨rfl, rfl⟩ := e
    exact ⟨[], by simp, by simp [VRelL]⟩
  | r :: rs, xs, p, e, hp => by
    simp only [resAll] at e
    split at e
    · simp at e
    rename_i x p1 e1
    split at e
    · simp at e
    rename_i ys p2 e2
    simp only [Option.some.injEq, Prod.mk.injEq] at e
    obtain ⟨rfl, rfl⟩ := e
    rw [AllP.app] at hp
    obtain ⟨v, h1, h2⟩ := resOne_sound e1 hp.1 rel
    obtain ⟨vs, h3, h4⟩ := resAll_sound rel rs ys p2 e2 hp.2
    exact ⟨v :: vs, fun f hf => by simp [List.mapM_cons, h1 f hf, h3 f hf], by rw [VRelL.cons_iff]; exact ⟨v, vs, rfl, h2, h4⟩⟩

theorem resV_rel {w : World} {N : Nat → Prop} {ρ : Ren} {h : Hp} {xs : List V} {vs : Array Value} (r : VRelL w N ρ h xs vs.toList) : VRel w N ρ h (resV xs) (if h : vs.size = 1 then vs[0] else .tuple vs) := by
  have hl := r.length
  match xs, r, hl with
  | [], r, hl =>
    have : vs.size ≠ 1 := by rw [← Array.length_toList, hl]; simp
    rw [dif_neg this]
    simp only [resV, VRel]
    exact ⟨vs, rfl, r⟩
  | [x], r, hl =>
    have : vs.size = 1 := by simpa using hl
    rw [dif_pos this]
    simp only [resV]
    rw [VRelL.cons_iff] at r
    obtain ⟨v, q, e, r1, r2⟩ := r
    have : vs[0] = v := by
      have h1 : vs[0]? = some v := by rw [← Array.getElem?_toList, e]; rfl
      rw [Array.getElem?_eq_getElem (by omega)] at h1
      exact Option.some.inj h1
    rw [this]
    exact r1
  | x :: y :: zs, r, hl =>
    have : vs.size ≠ 1 := by rw [← Array.length_toList, hl]; simp
    rw [dif_neg this]
    simp only [resV, VRel]
    exact ⟨vs, rfl, r⟩

/-! ### From the way to the contract -/
def initT : Nat → List V → List (Nat × V)
  | _, [] => []
  | k, x :: r => (k, x) :: initT (k + 1) r

theorem initT_lt : ∀ (xs : List V) (k j : Nat), j < k → tmpOf (initT k xs) j = .undef
  | [], k, j, _ => rfl
  | x :: r, k, j, h => by
    simp only [initT]
    rw [tmpOf_cons, upd_other _ _ (by omega)]
    exact initT_lt r (k + 1) j (by omega)

theorem initT_rel {w : World} {N : Nat → Prop} {ρ : Ren} {h : Hp} : ∀ (xs : List V) (vs : List Value), VRelL w N ρ h xs vs → ∀ (k j : Nat) (u : Nat → Value), VRel w N ρ h (tmpOf (initT k xs) (k + j)) ((vs[j]?).getD (u j))
  | [], vs, r, k, j, u => by simp [initT, tmpOf, lk, VRel]
  | x :: xs, vs, r, k, j, u => by
    rw [VRelL.cons_iff] at r
    obtain ⟨v, q, rfl, r1, r2⟩ := r
    simp only [initT]
    rw [tmpOf_cons]
    cases j with
    | zero =>
      show VRel w N ρ h (upd _ k x k) _
      rw [upd_same]; exact r1
    | succ j =>
      rw [upd_other _ _ (by omega)]
      have := initT_rel xs q r2 (k + 1) j (fun j => u (j + 1))
      rw [show k + (j + 1) = k + 1 + j by omega]
      simpa using this

def lenN {α : Type} : List α → Nat
  | [] => 0
  | _ :: r => lenN r + 1

theorem lenN_eq {α : Type} : ∀ l : List α, lenN l = l.length
  | [] => rfl
  | _ :: r => by simp [lenN, lenN_eq r]

/-- The names of blocks that are handed in are high. -/
def highIn : List (Nat × Blk) → Bool
  | [] => true
  | (id, _) :: r => Nat.ble 100000 id && highIn r

theorem highIn_lk : ∀ {l : List (Nat × Blk)}, highIn l = true → ∀ id b, lk l id = some b → 100000 ≤ id
  | [], _, id, b, e => by simp [lk] at e
  | (k, c) :: r, h, id, b, hl => by
    simp only [highIn, Bool.and_eq_true] at h
    simp only [lk] at hl
    split at hl
    · rename_i hk
      have := beq_eq hk
      subst this
      simpa using h.1
    · exact highIn_lk h.2 id b hl

def runFn (P : Program) (ntmps : Nat) (results : List ResultVar) (c : Code) (y : Wy) (o : WkO) (args : List V) (hin : List (Nat × Blk)) (res : List V) (hout : List (Nat × Blk)) : Option (List Prop) :=
  match Nat.ble (lenN args) ntmps, highIn hin with
  | true, true => match run P ntmps c y 0 ⟨initT 0 args, hin⟩ with
    | none => none
    | some (.exit _, _, _) => none
    | some (_, s, p) => match resAll P y.o s.t s.h results with
      | none => none
      | some (xs, q) => match wk o s.h hout xs res with
        | none => none
        | some r => some (p ++ (q ++ r))
  | _, _ => none

theorem FnOk.of_run {f : FuncId} {fn : Func} {c : Code} (hf : P.funcs[f]? = some fn) (hb : fn.body = some c) (hname : (fn.name == "runtime.NumGoroutine") = false) {n : Nat} (hn : fn.ntmps = n) {rs : List ResultVar} (hrs : fn.results = rs.toArray)
    {y : Wy} {o : WkO} {args : List V} {hin : List (Nat × Blk)} {res : List V} {hout : List (Nat × Blk)} {vc : List Prop} (hr : runFn P n rs c y o args hin res hout = some vc) (hvc : AllP vc) :
    FnOk P f args hin (.ret (resV res)) hout := by
  subst hn
  refine ⟨Go.Proofs.enters_of hf hname hb, ?_⟩
  intro w N0 ρ vs hlow hap hargs hlies
  unfold runFn at hr
  split at hr
  case h_2 => simp at hr
  rename_i hlen hhigh
  -- the body
  have body : ∀ e s p, run P fn.ntmps c y 0 ⟨initT 0 args, hin⟩ = some (e, s, p) → (e = .normal ∨ e = .ret) → ∀ xs q, resAll P y.o s.t s.h rs = some (xs, q) → ∀ r, wk o s.h hout xs res = some r → AllP (p ++ (q ++ r)) →
      Calls P f vs w fun e w' => ∃ ρ', OutRel w' (fun b => N0 b ∨ Mine ρ' (lk hout) b) ρ' (lk hout) (.ret (resV res)) e ∧ Behind w w' N0 ρ ρ' (lk hin) (lk hout) := by
    intro e s p hrun he xs q hres r hwk hall
    rw [AllP.app, AllP.app] at hall
    obtain ⟨ha1, ha2, ha3⟩ := hall
    refine calls_of_wp hf hb ?_
    let E : Env := ⟨w, N0, Mine ρ (lk hin), fn.ntmps, [], hlow, hap, ρ, lk hin, 100000⟩
    have hsz : vs.size ≤ fn.ntmps := by
      have h1 := hargs.length
      have h2 : lenN args ≤ fn.ntmps := by simpa using hlen
      rw [lenN_eq] at h2
      simp at h1
      omega
    have init : RelAt E ρ (tmpOf (initT 0 args)) (lk hin) { tmps := vs ++ Array.replicate (fn.ntmps - vs.size) undef, defers := [] } w := by
      refine ⟨fun k => ?_, ?_, rfl, hlies.heap, hlies.inj, hlies.lt, fun id q hl hq => .inr ⟨id, q, hl, hq, rfl⟩, fun _ _ _ => rfl, Nat.le_refl _, rfl, rfl, rfl, Nat.le_refl _, fun id _ h0 => ⟨fun e => ?_, fun _ => ⟨rfl, BlkLe.refl _⟩⟩⟩
      · have := initT_rel args vs.toList hargs 0 k (fun _ => Go.undef)
        rw [Nat.zero_add] at this
        have e : (vs ++ Array.replicate (fn.ntmps - vs.size) undef).getD k Go.undef = (vs.toList[k]?).getD Go.undef := by
          rw [Array.getD_eq_getD_getElem?, Array.getElem?_append]
          split
          · simp
          · rename_i hk
            have h2 : vs[k]? = none := by simp; omega
            rw [Array.getElem?_toList, h2]
            rw [Array.getElem?_replicate]
            split <;> rfl
        show VRel w (E.NN ρ (lk hin)) ρ (lk hin) _ ((vs ++ Array.replicate (fn.ntmps - vs.size) undef).getD k Go.undef)
        rw [e]
        exact this
      · show (vs ++ Array.replicate (fn.ntmps - vs.size) undef).size = fn.ntmps
        simp; omega
      · have h0' : live (lk hin id) = true := h0
        rw [e] at h0'; simp [live] at h0'
    have t := run_sound c y 0 _ _ _ _ hrun ha1 E ρ _ w ⟨rfl, Nat.le_refl _⟩ init (bodyPost P fn fun e w' => ∃ ρ', OutRel w' (fun b => N0 b ∨ Mine ρ' (lk hout) b) ρ' (lk hout) (.ret (resV res)) e ∧ Behind w w' N0 ρ ρ' (lk hin) (lk hout)) ?_
    · exact t
    intro ρ' a' w' e' hex rel
    have done : a'.defers = [] ∧ ∃ v, (Go.results fn a'.tmps).run P w' = .ok v w' ∧ (∃ ρ', OutRel w' (fun b => N0 b ∨ Mine ρ' (lk hout) b) ρ' (lk hout) (.ret (resV res)) (.returned v) ∧ Behind w w' N0 ρ ρ' (lk hin) (lk hout)) := by
      refine ⟨rel.defers, ?_⟩
      obtain ⟨us, h1, h2⟩ := resAll_sound rel rs xs q hres ha2
      obtain ⟨h3, h4⟩ := wk_sound hwk ha3 (Nat.le_refl _) rel h2
      refine ⟨if h : us.toArray.size = 1 then us.toArray[0] else .tuple us.toArray, ?_, wkR o ρ', resV_rel (vs := us.toArray) h4, ?_⟩
      · unfold results
        rw [hrs, List.mapM_toArray]
        simp only [Sem.run_bind, Sem.run_map]
        rw [h1 _ ⟨fun _ => rfl, fun _ _ => rfl⟩]
        rfl
      · refine ⟨⟨h3.heap, h3.inj, h3.lt⟩, fun id hl hl' => ?_, fun id q hl hq => ?_, h3.grown, fun b hb hm => h3.frame b hb hm, h3.os, h3.tape, h3.output, h3.drawn⟩
        · cases hk : lk hin id with
          | none => rw [hk] at hl; simp [live] at hl
          | some k =>
            have := (h3.stay id (highIn_lk hhigh id k hk) (by show live (lk hin id) = true; exact hl)).2 hl'
            rw [← hk]
            exact this
        · exact h3.mine id q hl hq
    rcases he with rfl | rfl <;> cases e' <;> simp only [ExRel] at hex <;> exact done
  split at hr
  · simp at hr
  · simp at hr
  · rename_i e s p hne hrun
    split at hr
    · simp at hr
    rename_i xs q hres
    split at hr
    · simp at hr
    rename_i r hwk
    simp only [Option.some.injEq] at hr
    subst hr
    refine body e s p hrun ?_ xs q hres r hwk hvc
    cases e with
    | normal => exact .inl rfl
    | ret => exact .inr rfl
    | exit i => exact (hne i rfl).elim

end Go.Own

namespace Go.Own
open Go

variable {P : Program}

def bodyOf (fn : Func) : Code := match fn.body with
  | some c => c
  | none => .skip

def entersB (fn : Func) : Bool := match fn.body with
  | some _ => !(fn.name == "runtime.NumGoroutine")
  | none => false

def runF (P : Program) (fn : Func) (y : Wy) (o : WkO) (args : List V) (hin : List (Nat × Blk)) (res : List V) (hout : List (Nat × Blk)) : Option (List Prop) :=
  runFn P fn.ntmps fn.results.toList (bodyOf fn) y o args hin res hout

theorem FnOk.of {f : FuncId} {fn : Func} (hf : P.funcs[f]? = some fn) (hb : entersB fn = true) {y : Wy} {o : WkO} {args : List V} {hin : List (Nat × Blk)} {res : List V} {hout : List (Nat × Blk)} {vc : List Prop}
    (hr : runF P fn y o args hin res hout = some vc) (hvc : AllP vc) : FnOk P f args hin (.ret (resV res)) hout := by
  unfold entersB at hb
  unfold runF bodyOf at hr
  split at hb
  · rename_i c hc
    rw [hc] at hr
    exact FnOk.of_run hf hc (by simpa using hb) rfl (by simp) hr hvc
  · simp at hb

/-- The conditions are read off their proofs. -/
inductive PfL : List Prop → Prop
  | nil : PfL []
  | cons {p : Prop} {l : List Prop} : p → PfL l → PfL (p :: l)

theorem pz : PfL [] := .nil
theorem pf {p : Prop} {l : List Prop} (h : p) (t : PfL l) : PfL (p :: l) := .cons h t

theorem PfL.all {l : List Prop} (h : PfL l) : AllP l := by
  induction h with
  | nil => trivial
  | cons h _ ih => exact ⟨h, ih⟩

theorem DLe.r (a : D) : DLe a a := DLe.rfl'

theorem FnOk.by {f : FuncId} {fn : Func} (hf : P.funcs[f]? = some fn) (hb : entersB fn = true) (y : Wy) (o : WkO) {args : List V} {hin : List (Nat × Blk)} (res : List V) {hout : List (Nat × Blk)} {x : V} {vc : List Prop} (hx : resV res = x) (hvc : PfL vc)
    (hr : runF P fn y o args hin res hout = some vc) : FnOk P f args hin (.ret x) hout := by
  subst hx
  exact FnOk.of hf hb hr hvc.all

/-! ### Loops by their rounds -/
def loopIn (key : Nat) : Nat → Code → Option Code
  | cur, .loop c => match Nat.beq cur key with
    | true => some c
    | false => loopIn key cur c
  | cur, .seq a b => match loopIn key cur a with
    | some c => some c
    | none => loopIn key cur b
  | cur, .cond _ a b => match loopIn key cur a with
    | some c => some c
    | none => loopIn key cur b
  | _, .block i c => loopIn key i c
  | _, _ => none

def loopOf (fn : Func) (key : Nat) : Code := match loopIn key 0 (bodyOf fn) with
  | some c => c
  | none => .skip

def sameEx : AExit → AExit → Bool
  | .normal, .normal => true
  | .ret, .ret => true
  | .exit i, .exit j => Nat.beq i j
  | _, _ => false

def runRd (P : Program) (n : Nat) (c : Code) (y : Wy) (k : Nat) (s : St) (e : AExit) (o : WkO) (s1 : St) : Option (List Prop) :=
  match run P n c y k s with
  | none => none
  | some (e', s', p) => match sameEx e e' with
    | false => none
    | true => match wkS o s' s1 with
      | none => none
      | some q => some (p ++ q)

theorem T.by {n : Nat} {c : Code} {s s1 : St} {e : AExit} (y : Wy) (k : Nat) (o : WkO) {vc : List Prop} (hvc : PfL vc) (hr : runRd P n c y k s e o s1 = some vc) : T P n c s e s1 := by
  unfold runRd at hr
  split at hr
  · simp at hr
  rename_i e' s' p h1
  split at hr
  · simp at hr
  rename_i he
  split at hr
  · simp at hr
  rename_i q h2
  simp only [Option.some.injEq] at hr
  subst hr
  have hv := hvc.all
  rw [AllP.app] at hv
  have : e = e' := by
    unfold sameEx at he
    split at he
    · rfl
    · rfl
    · rw [beq_eq he]
    · simp at he
  subst this
  exact T.post (run_sound c y k s e s' p h1 hv.1) (Weak.of_wk h2 hv.2)

end Go.Own
