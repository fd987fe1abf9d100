/-
A region whose order is drawn: whatever the order, it comes to what it comes to in the text's order.
-/
import Derived.Test.YtlaohcpkecmhnaaOwnFrame
import Derived.Test.YtlaohcpkecmhnaaOwnWeak

set_option linter.all false

namespace Go.Own
open Go (Value IntKind BinOp UnOp TypeId FuncId)

variable {P : Program}

/-! ### The last that was written -/
section
variable {A : Type}

def val : List (Option A) → (Nat → Bool) → Nat → A → A
  | [], _, _, z => z
  | none :: r, S, i, z => val r S (i + 1) z
  | some x :: r, S, i, z => val r S (i + 1) (if S i then x else z)

theorem val_none : ∀ (L : List (Option A)) (S : Nat → Bool) (i : Nat) (z : A), (∀ m x, L[m]? = some (some x) → S (i + m) = false) → val L S i z = z
  | [], _, _, _, _ => rfl
  | none :: r, S, i, z, h => by
    simp only [val]
    exact val_none r S (i + 1) z (fun m x hm => by have := h (m + 1) x (by simpa using hm); rwa [show i + 1 + m = i + (m + 1) by omega])
  | some x :: r, S, i, z, h => by
    simp only [val]
    have h0 := h 0 x rfl
    rw [Nat.add_zero] at h0
    rw [h0]
    exact val_none r S (i + 1) z (fun m x hm => by have := h (m + 1) x (by simpa using hm); rwa [show i + 1 + m = i + (m + 1) by omega])

theorem val_read : ∀ (L : List (Option A)) (S : Nat → Bool) (i j : Nat) (z : A), (∀ m x, L[m]? = some (some x) → (S (i + m) = true ↔ m < j)) → val L S i z = val (L.take j) (fun _ => true) i z
  | [], _, _, _, _, _ => by simp [val]
  | o :: r, S, i, 0, z, h => by
    rw [List.take_zero]
    refine val_none _ _ _ _ fun m x hm => ?_
    have := h m x hm
    simpa using this
  | none :: r, S, i, j + 1, z, h => by
    rw [List.take_succ_cons]
    simp only [val]
    exact val_read r S (i + 1) j z (fun m x hm => by have := h (m + 1) x (by simpa using hm); rw [show i + 1 + m = i + (m + 1) by omega]; exact this.trans ⟨fun h => by omega, fun h => by omega⟩)
  | some x :: r, S, i, j + 1, z, h => by
    rw [List.take_succ_cons]
    simp only [val]
    have h0 := (h 0 x rfl).2 (by omega)
    rw [Nat.add_zero] at h0
    rw [h0]
    exact val_read r S (i + 1) j _ (fun m x hm => by have := h (m + 1) x (by simpa using hm); rw [show i + 1 + m = i + (m + 1) by omega]; exact this.trans ⟨fun h => by omega, fun h => by omega⟩)

theorem val_congr : ∀ (L : List (Option A)) (S S' : Nat → Bool) (i : Nat) (z : A), (∀ m, m < L.length → S (i + m) = S' (i + m)) → val L S i z = val L S' i z
  | [], _, _, _, _, _ => rfl
  | none :: r, S, S', i, z, h => by
    simp only [val]
    exact val_congr r S S' (i + 1) z (fun m hm => by have := h (m + 1) (by simpa using hm); rwa [show i + 1 + m = i + (m + 1) by omega])
  | some x :: r, S, S', i, z, h => by
    simp only [val]
    have h0 := h 0 (by simp)
    rw [Nat.add_zero] at h0
    rw [h0]
    exact val_congr r S S' (i + 1) _ (fun m hm => by have := h (m + 1) (by simpa using hm); rwa [show i + 1 + m = i + (m + 1) by omega])

theorem val_write : ∀ (L : List (Option A)) (S S' : Nat → Bool) (i j : Nat) (z : A) (w : Option A), L[j]? = some w → (∀ m, m < L.length → S' (i + m) = (decide (m = j) || S (i + m))) →
    (w ≠ none → ∀ m x, j < m → L[m]? = some (some x) → S (i + m) = false) → val L S' i z = match w with | some x => x | none => val L S i z
  | [], _, _, _, j, _, w, hw, _, _ => by simp at hw
  | o :: r, S, S', i, 0, z, w, hw, hS, hl => by
    simp at hw
    subst hw
    have hrest : ∀ y, val r S' (i + 1) y = val r S (i + 1) y := fun y => by
      refine val_congr r S' S (i + 1) y fun m hm => ?_
      have := hS (m + 1) (by simpa using hm)
      rw [show i + 1 + m = i + (m + 1) by omega, this]
      simp
    cases o with
    | none => simp only [val]; exact hrest z
    | some x =>
      simp only [val]
      have h0 := hS 0 (by simp)
      rw [Nat.add_zero] at h0
      rw [h0, hrest]
      simp only [decide_true, Bool.true_or, if_true]
      exact val_none r S (i + 1) x (fun m y hm => by have := hl (by simp) (m + 1) y (by omega) (by simpa using hm); rwa [show i + 1 + m = i + (m + 1) by omega])
  | o :: r, S, S', i, j + 1, z, w, hw, hS, hl => by
    have hw' : r[j]? = some w := by simpa using hw
    have hS' : ∀ m, m < r.length → S' (i + 1 + m) = (decide (m = j) || S (i + 1 + m)) := fun m hm => by
      have := hS (m + 1) (by simpa using hm)
      rw [show i + 1 + m = i + (m + 1) by omega, this]
      congr 1
      simp
    have hl' : w ≠ none → ∀ m x, j < m → r[m]? = some (some x) → S (i + 1 + m) = false := fun hne m x hm hx => by
      have := hl hne (m + 1) x (by omega) (by simpa using hx)
      rwa [show i + 1 + m = i + (m + 1) by omega]
    cases o with
    | none => simp only [val]; exact val_write r S S' (i + 1) j z w hw' hS' hl'
    | some x =>
      simp only [val]
      have h0 := hS 0 (by simp)
      rw [Nat.add_zero] at h0
      simp at h0
      rw [h0]
      exact val_write r S S' (i + 1) j _ w hw' hS' hl'

end

/-! ### What an operation came to, at which it looks and what it writes -/
structure Rc where
  dst : Option Nat
  x : V
  ups : List (Nat × Blk)
  rt : List Nat
  ks : List Nat

def Rc.wt (r : Rc) : List Nat := match r.dst with
  | some d => [d]
  | none => []
def Rc.at' (r : Rc) : List Nat := match r.dst with
  | some d => d :: r.rt
  | none => r.rt
def Rc.wh (r : Rc) : List Nat := keys r.ups
def Rc.ah (r : Rc) : List Nat := keys r.ups ++ r.ks

def disj : List Nat → List Nat → Bool
  | [], _ => true
  | k :: r, l => match memN l k with
    | true => false
    | false => disj r l

def noConf (a b : Rc) : Bool := match disj a.wt b.at' with
  | false => false
  | true => match disj b.wt a.at' with
    | false => false
    | true => match disj a.wh b.ah with
      | false => false
      | true => disj b.wh a.ah

theorem memN_app : ∀ (xs ys : List Nat) (k : Nat), memN (xs ++ ys) k = (memN xs k || memN ys k)
  | [], _, _ => rfl
  | x :: xs, ys, k => by
    simp only [List.cons_append, memN]
    cases Nat.beq x k with
    | true => rfl
    | false => simpa using memN_app xs ys k

theorem disj_mem : ∀ {xs ys : List Nat}, disj xs ys = true → ∀ k, memN xs k = true → memN ys k = false
  | [], _, _, k, h => by simp [memN] at h
  | x :: xs, ys, hd, k, h => by
    simp only [disj] at hd
    split at hd
    · simp at hd
    rename_i hx
    simp only [memN] at h
    split at h
    · rename_i hk
      have := beq_eq hk
      subst this
      exact hx
    · exact disj_mem hd k h

def wT (k : Nat) (r : Rc) : Option V := match r.dst with
  | some d => match Nat.beq d k with
    | true => some r.x
    | false => none
  | none => none
def wH (id : Nat) (r : Rc) : Option (Option Blk) := match lk r.ups id with
  | some b => some (some b)
  | none => none

theorem wT_mem {k : Nat} {r : Rc} {x : V} (h : wT k r = some x) : memN r.wt k = true := by
  unfold wT at h
  unfold Rc.wt
  cases hd : r.dst with
  | none => rw [hd] at h; simp at h
  | some d =>
    rw [hd] at h
    simp only at h
    split at h
    · rename_i hk
      simp [memN, hk]
    · simp at h

theorem keys_of_lk : ∀ {l : List (Nat × Blk)} {id : Nat} {b : Blk}, lk l id = some b → memN (keys l) id = true
  | [], id, b, h => by simp [lk] at h
  | (k, c) :: r, id, b, h => by
    simp only [keys, memN]
    simp only [lk] at h
    cases hk : Nat.beq k id with
    | true => rfl
    | false => rw [hk] at h; exact keys_of_lk h

theorem wH_mem {k : Nat} {r : Rc} {x : Option Blk} (h : wH k r = some x) : memN r.wh k = true := by
  unfold wH at h
  unfold Rc.wh
  split at h
  · rename_i b hb
    exact keys_of_lk hb
  · simp at h

def stT (rs : List Rc) (S : Nat → Bool) (t : Nat → V) : Nat → V := fun k => val (rs.map (wT k)) S 0 (t k)
def stH (rs : List Rc) (S : Nat → Bool) (h : Hp) : Hp := fun id => val (rs.map (wH id)) S 0 (h id)

def txtT : List Rc → (Nat → V) → (Nat → V)
  | [], t => t
  | r :: rs, t => txtT rs (putT t r.dst r.x)
def txtH : List Rc → Hp → Hp
  | [], h => h
  | r :: rs, h => txtH rs (ovH r.ups h)

theorem txtT_val : ∀ (rs : List Rc) (t : Nat → V) (k i : Nat), txtT rs t k = val (rs.map (wT k)) (fun _ => true) i (t k)
  | [], _, _, _ => rfl
  | r :: rs, t, k, i => by
    simp only [txtT, List.map_cons]
    rw [txtT_val rs _ k (i + 1)]
    unfold wT putT
    cases r.dst with
    | none => rfl
    | some d =>
      simp only
      cases hk : Nat.beq d k with
      | true =>
        have := beq_eq hk
        subst this
        simp [val]
      | false =>
        have : k ≠ d := fun e => by subst e; simp at hk
        simp only [val]
        rw [upd_other _ _ this]

theorem txtH_val : ∀ (rs : List Rc) (h : Hp) (k i : Nat), txtH rs h k = val (rs.map (wH k)) (fun _ => true) i (h k)
  | [], _, _, _ => rfl
  | r :: rs, h, k, i => by
    simp only [txtH, List.map_cons]
    rw [txtH_val rs _ k (i + 1)]
    unfold wH ovH
    cases lk r.ups k with
    | none => rfl
    | some b => rfl

/-! ### One operation, wherever it stands -/
def LocalStep (P : Program) (all : Array Oper) (op : Oper) (r : Rc) (t' : Nat → V) (h' : Hp) : Prop :=
  ((∀ (E : Env) (ρ : Ren) (a : Act) (w : World), RelAt E ρ t' h' a w → Region.wanted op (yielded all a.tmps) = true) ∧ StepsW P op t' h' r.x (ovH r.ups h')) ∨
  ((∀ (E : Env) (ρ : Ren) (a : Act) (w : World), RelAt E ρ t' h' a w → Region.wanted op (yielded all a.tmps) = false) ∧ r.x = .undef ∧ r.ups = [])

structure Local (P : Program) (n : Nat) (all : Array Oper) (op : Oper) (r : Rc) (t : Nat → V) (h : Hp) : Prop where
  dst : r.dst = op.dst
  ok : dstOk n op.dst = true
  step : ∀ (t' : Nat → V) (h' : Hp), (∀ k, memN r.rt k = true → t' k = t k) → (∀ id, memN r.ah id = true → h' id = h id) → LocalStep P all op r t' h'

inductive Chain (P : Program) (n : Nat) (all : Array Oper) : List Oper → List Rc → (Nat → V) → Hp → Prop
  | nil {t h} : Chain P n all [] [] t h
  | cons {op ops r rs t h} : Local P n all op r t h → Chain P n all ops rs (putT t r.dst r.x) (ovH r.ups h) → Chain P n all (op :: ops) (r :: rs) t h

theorem Chain.length {n : Nat} {all : Array Oper} {ops : List Oper} {rs : List Rc} {t : Nat → V} {h : Hp} (c : Chain P n all ops rs t h) : rs.length = ops.length := by
  induction c with
  | nil => rfl
  | cons _ _ ih => simp [ih]

theorem Chain.at' {n : Nat} {all : Array Oper} {ops : List Oper} {rs : List Rc} {t : Nat → V} {h : Hp} (c : Chain P n all ops rs t h) : ∀ (j : Nat) (op : Oper) (r : Rc), ops[j]? = some op → rs[j]? = some r → Local P n all op r (txtT (rs.take j) t) (txtH (rs.take j) h) := by
  induction c with
  | nil => intro j op r h1; simp at h1
  | cons l _ ih =>
    intro j op r h1 h2
    cases j with
    | zero =>
      simp at h1 h2
      subst h1 h2
      exact l
    | succ j =>
      simpa [txtT, txtH] using ih j op r (by simpa using h1) (by simpa using h2)

/-! ### The edges -/
def edgeTo (op : Oper) (i : Nat) : Bool := op.after.toList.any fun e => Nat.beq e.on i && Region.binds .any e

def backOk (op : Oper) (j : Nat) : Bool := op.after.toList.all fun e => !Region.binds .any e || Nat.blt e.on j

/-- Behind it, by one step or by several. -/
def pathTo (all : List Oper) : Nat → Oper → Nat → Bool
  | 0, op, i => edgeTo op i
  | f + 1, op, i => edgeTo op i || op.after.toList.any fun e => Region.binds .any e && match all[e.on]? with
    | some o => pathTo all f o i
    | none => false

def confOk (all : List Oper) (op : Oper) (r : Rc) : Nat → List Rc → Bool
  | _, [] => true
  | i, a :: rs => match noConf a r with
    | true => confOk all op r (i + 1) rs
    | false => match pathTo all 8 op i with
      | true => confOk all op r (i + 1) rs
      | false => false

/-- Over all operations: those ahead, in their order. -/
def orderOkA (all : List Oper) : List Oper → List Rc → List Rc → Nat → Bool
  | [], [], _, _ => true
  | op :: ops, r :: rs, done, j => match backOk op j with
    | false => false
    | true => match confOk all op r 0 done with
      | false => false
      | true => orderOkA all ops rs (done ++ [r]) (j + 1)
  | _, _, _, _ => false

def orderOk (ops : List Oper) (rs done : List Rc) (j : Nat) : Bool := orderOkA ops ops rs done j

theorem confOk_at {all : List Oper} {op : Oper} {r : Rc} : ∀ (rs : List Rc) (i : Nat), confOk all op r i rs = true → ∀ m a, rs[m]? = some a → noConf a r = true ∨ pathTo all 8 op (i + m) = true
  | [], _, _, m, a, h => by simp at h
  | b :: rs, i, hc, m, a, h => by
    simp only [confOk] at hc
    cases m with
    | zero =>
      simp at h
      subst h
      cases hn : noConf b r with
      | true => exact .inl rfl
      | false =>
        rw [hn] at hc
        right
        cases he : pathTo all 8 op i with
        | true => rfl
        | false => rw [he] at hc; cases hc
    | succ m =>
      have hrest : confOk all op r (i + 1) rs = true := by
        cases hn : noConf b r with
        | true => rw [hn] at hc; exact hc
        | false =>
          rw [hn] at hc
          cases he : pathTo all 8 op i with
          | true => rw [he] at hc; exact hc
          | false => rw [he] at hc; cases hc
      have := confOk_at rs (i + 1) hrest m a (by simpa using h)
      rwa [show i + 1 + m = i + (m + 1) by omega] at this

theorem orderOk_at {all : List Oper} : ∀ (ops : List Oper) (rs done : List Rc) (j : Nat), orderOkA all ops rs done j = true → j = done.length → ∀ m op r, ops[m]? = some op → rs[m]? = some r → backOk op (j + m) = true ∧ ∀ i a, i < j + m → (done ++ rs)[i]? = some a → noConf a r = true ∨ pathTo all 8 op i = true
  | [], _, _, _, _, _, m, op, r, h, _ => by simp at h
  | _ :: _, [], _, _, _, _, m, op, r, _, h => by simp at h
  | o :: ops, r0 :: rs, done, j, ho, hj, m, op, r, h1, h2 => by
    simp only [orderOkA] at ho
    split at ho
    · simp at ho
    rename_i hb
    split at ho
    · simp at ho
    rename_i hc
    cases m with
    | zero =>
      simp at h1 h2
      subst h1 h2
      refine ⟨hb, fun i a hi ha => ?_⟩
      rw [List.getElem?_append_left (by omega)] at ha
      have := confOk_at done 0 hc i a ha
      rwa [Nat.zero_add] at this
    | succ m =>
      have := orderOk_at ops rs (done ++ [r0]) (j + 1) ho (by simp [hj]) m op r (by simpa using h1) (by simpa using h2)
      rw [show j + 1 + m = j + (m + 1) by omega] at this
      refine ⟨this.1, fun i a hi ha => this.2 i a hi ?_⟩
      simpa using ha

theorem edgeTo_mem {op : Oper} {i : Nat} (h : edgeTo op i = true) : ∃ e ∈ op.after, e.on = i ∧ Region.binds .any e = true := by
  unfold edgeTo at h
  rw [List.any_eq_true] at h
  obtain ⟨e, he, h⟩ := h
  rw [Bool.and_eq_true] at h
  exact ⟨e, by simpa using he, beq_eq h.1, h.2⟩

/-- What is ahead of what has run has run. -/
theorem pathTo_listed {ops : Array Oper} {listed : Array Bool} (hclosed : ∀ i op, ops[i]? = some op → listed.getD i false = true → ∀ e ∈ op.after, Region.binds .any e = true → listed.getD e.on false = true) :
    ∀ (f : Nat) (op : Oper) (i : Nat), (∀ e ∈ op.after, Region.binds .any e = true → listed.getD e.on false = true) → pathTo ops.toList f op i = true → listed.getD i false = true
  | 0, op, i, hop, h => by
    obtain ⟨e, he, heq, hb⟩ := edgeTo_mem h
    have := hop e he hb
    rwa [heq] at this
  | f + 1, op, i, hop, h => by
    simp only [pathTo, Bool.or_eq_true] at h
    rcases h with h | h
    · obtain ⟨e, he, heq, hb⟩ := edgeTo_mem h
      have := hop e he hb
      rwa [heq] at this
    · rw [List.any_eq_true] at h
      obtain ⟨e, he, h⟩ := h
      rw [Bool.and_eq_true] at h
      obtain ⟨hb, h⟩ := h
      have hl := hop e (by simpa using he) hb
      split at h
      · rename_i o ho
        exact pathTo_listed hclosed f o i (hclosed e.on o (by rw [← Array.getElem?_toList]; exact ho) hl) h
      · cases h

theorem ready_mem {ops : Array Oper} {listed : Array Bool} {i : Nat} : i ∈ Region.ready .any ops listed ↔ ∃ op, ops[i]? = some op ∧ listed.getD i true = false ∧ ∀ e ∈ op.after, Region.binds .any e = true → listed.getD e.on false = true := by
  unfold Region.ready
  rw [List.mem_filter, List.mem_range]
  constructor
  · rintro ⟨hi, h⟩
    rw [Bool.and_eq_true] at h
    obtain ⟨h1, h2⟩ := h
    have hop : ops[i]? = some ops[i] := Array.getElem?_eq_getElem hi
    rw [hop] at h2
    simp only [Option.map_some, Option.getD_some] at h2
    refine ⟨_, hop, by simpa using h1, fun e he hb => ?_⟩
    rw [Array.all_eq_true'] at h2
    have := h2 e he
    rw [hb] at this
    simpa using this
  · rintro ⟨op, hop, h1, h2⟩
    have hi : i < ops.size := (Array.getElem?_eq_some_iff.1 hop).1
    refine ⟨hi, ?_⟩
    rw [Bool.and_eq_true]
    refine ⟨by simp only [h1]; rfl, ?_⟩
    rw [hop]
    simp only [Option.map_some, Option.getD_some]
    rw [Array.all_eq_true']
    intro e he
    cases hb : Region.binds .any e with
    | false => rfl
    | true => have := h2 e he hb; simp only [this]; rfl

/-- How many are left. -/
def left : Nat → (Nat → Bool) → Nat
  | 0, _ => 0
  | n + 1, f => left n f + (if f n then 0 else 1)

theorem left_zero : ∀ {n : Nat} {f : Nat → Bool}, left n f = 0 → ∀ i, i < n → f i = true
  | 0, _, _, i, hi => by omega
  | n + 1, f, h, i, hi => by
    simp only [left] at h
    have h2 : f n = true := by
      cases hf : f n with
      | true => rfl
      | false => rw [hf] at h; simp at h
    by_cases e : i = n
    · rw [e]; exact h2
    · exact left_zero (by omega : left n f = 0) i (by omega)

theorem left_same : ∀ {n : Nat} {f g : Nat → Bool}, (∀ i, i < n → f i = g i) → left n f = left n g
  | 0, _, _, _ => rfl
  | n + 1, f, g, h => by
    simp only [left]
    rw [left_same (fun i hi => h i (by omega)), h n (by omega)]

theorem left_step : ∀ {n : Nat} {f g : Nat → Bool} {j : Nat}, j < n → f j = false → (∀ i, g i = (decide (i = j) || f i)) → left n f = left n g + 1
  | 0, _, _, _, hj, _, _ => by omega
  | n + 1, f, g, j, hj, hf, hg => by
    simp only [left]
    by_cases e : j = n
    · subst e
      rw [hf, hg j, left_same (n := j) (f := g) (g := f) (fun i hi => by rw [hg i]; simp; intro h; omega)]
      simp
    · rw [left_step (n := n) (j := j) (by omega) hf hg, hg n]
      have : decide (n = j) = false := by simp; omega
      rw [this, Bool.false_or]
      omega

/-! ### Any order -/
theorem wpAny_of {n : Nat} {ops : Array Oper} {rs : List Rc} {t : Nat → V} {h : Hp} {Q : Exit → Act → World → Prop} {E : Env} (hn : E.n = n) (c : Chain P n ops ops.toList rs t h) (ho : orderOk ops.toList rs [] 0 = true)
    (hQ : ∀ ρ a w, RelAt E ρ (txtT rs t) (txtH rs h) a w → Q .normal a w) :
    ∀ (fuel : Nat) (listed : Array Bool) (ρ : Ren) (a : Act) (w : World), listed.size = ops.size → left ops.size (fun i => listed.getD i false) ≤ fuel →
      (∀ i op, ops[i]? = some op → listed.getD i false = true → ∀ e ∈ op.after, Region.binds .any e = true → listed.getD e.on false = true) →
      RelAt E ρ (stT rs (fun i => listed.getD i false) t) (stH rs (fun i => listed.getD i false) h) a w → wpAny P .any ops Q fuel listed a w := by
  have hlen : rs.length = ops.size := by rw [c.length]; simp
  have order := orderOk_at (all := ops.toList) ops.toList rs [] 0 ho rfl
  simp only [Nat.zero_add, List.nil_append] at order
  have getR : ∀ i, i < ops.size → ∃ r, rs[i]? = some r := fun i hi => ⟨rs[i]'(by omega), List.getElem?_eq_getElem (by omega)⟩
  -- nothing is left
  have done : ∀ (listed : Array Bool) (ρ : Ren) (a : Act) (w : World), listed.size = ops.size → (∀ i, i < ops.size → listed.getD i false = true) →
      RelAt E ρ (stT rs (fun i => listed.getD i false) t) (stH rs (fun i => listed.getD i false) h) a w → Q .normal a w := by
    intro listed ρ a w hsz hall rel
    refine hQ ρ a w ?_
    have e1 : stT rs (fun i => listed.getD i false) t = txtT rs t := by
      funext k
      rw [txtT_val rs t k 0]
      exact val_congr _ _ _ _ _ (fun m hm => by rw [Nat.zero_add]; exact hall m (by simpa [hlen] using hm))
    have e2 : stH rs (fun i => listed.getD i false) h = txtH rs h := by
      funext k
      rw [txtH_val rs h k 0]
      exact val_congr _ _ _ _ _ (fun m hm => by rw [Nat.zero_add]; exact hall m (by simpa [hlen] using hm))
    rw [← e1, ← e2]
    exact rel
  have empty : ∀ (listed : Array Bool), listed.size = ops.size → Region.ready .any ops listed = [] → ∀ i, i < ops.size → listed.getD i false = true := by
    intro listed hsz hr i
    induction i using Nat.strongRecOn with
    | _ i ih =>
      intro hi
      cases hl : listed.getD i false with
      | true => rfl
      | false =>
        have hmem : i ∈ Region.ready .any ops listed := by
          rw [ready_mem]
          refine ⟨ops[i], Array.getElem?_eq_getElem hi, ?_, fun e he hb => ?_⟩
          · rw [Array.getD_eq_getD_getElem?, Array.getElem?_eq_getElem (by omega)] at hl ⊢
            simpa using hl
          · obtain ⟨r, hr⟩ := getR i hi
            have := (order i ops[i] r (by simp [hi]) hr).1
            unfold backOk at this
            rw [List.all_eq_true] at this
            have := this e (by simpa using he)
            rw [hb] at this
            have : e.on < i := by simpa using this
            exact ih e.on this (by omega)
        rw [hr] at hmem
        simp at hmem
  intro fuel
  induction fuel with
  | zero =>
    intro listed ρ a w hsz hfuel hclosed rel
    have hall : ∀ i, i < ops.size → listed.getD i false = true := left_zero (by omega)
    unfold wpAny
    refine ⟨?_, done listed ρ a w hsz hall rel⟩
    rw [List.eq_nil_iff_forall_not_mem]
    intro i hi
    rw [ready_mem] at hi
    obtain ⟨op, hop, h1, _⟩ := hi
    have hi' : i < ops.size := (Array.getElem?_eq_some_iff.1 hop).1
    have := hall i hi'
    rw [Array.getD_eq_getD_getElem?, Array.getElem?_eq_getElem (by omega)] at h1 this
    simp at h1 this
    rw [h1] at this; cases this
  | succ fuel ih =>
    intro listed ρ a w hsz hfuel hclosed rel
    unfold wpAny
    refine ⟨fun hr => done listed ρ a w hsz (empty listed hsz hr) rel, ?_⟩
    intro j hj
    rw [ready_mem] at hj
    obtain ⟨op, hop, hunl, hedges⟩ := hj
    have hj : j < ops.size := (Array.getElem?_eq_some_iff.1 hop).1
    have hunl : listed.getD j false = false := by
      rw [Array.getD_eq_getD_getElem?, Array.getElem?_eq_getElem (by omega)] at hunl ⊢
      simpa using hunl
    obtain ⟨r, hr⟩ := getR j hj
    have hopl : ops.toList[j]? = some op := by rw [Array.getElem?_toList]; exact hop
    have loc := c.at' j op r hopl hr
    -- writers of what is looked at: just those ahead have run
    have ahead : ∀ m a, rs[m]? = some a → noConf a r = false → (listed.getD m false = true ↔ m < j) ∨ m = j := by
      intro m a ha hconf
      by_cases hmj : m = j
      · exact .inr hmj
      left
      have hm : m < ops.size := by rw [← hlen]; exact (List.getElem?_eq_some_iff.1 ha).1
      constructor
      · intro hl
        by_cases hlt : m < j
        · exact hlt
        · exfalso
          have hgt : j < m := by omega
          have := (order m ops[m] a (by simp [hm]) ha).2 j r hgt hr
          have hsym : noConf r a = false := by
            cases hh : noConf r a with
            | false => rfl
            | true =>
              unfold noConf at hh hconf
              split at hh
              · simp at hh
              rename_i d1
              split at hh
              · simp at hh
              rename_i d2
              split at hh
              · simp at hh
              rename_i d3
              rw [d1, d2, d3, hh] at hconf
              simp at hconf
          rcases this with h1 | h1
          · rw [hsym] at h1; cases h1
          · have := pathTo_listed hclosed 8 ops[m] j (hclosed m ops[m] (Array.getElem?_eq_getElem hm) hl) h1
            rw [hunl] at this; cases this
      · intro hlt
        rcases (order j op r hopl hr).2 m a hlt ha with h1 | h1
        · rw [hconf] at h1; cases h1
        · exact pathTo_listed hclosed 8 op m hedges h1
    have confT : ∀ a k x, wT k a = some x → memN r.at' k = true → noConf a r = false := by
      intro a k x hx hk
      unfold noConf
      cases hd : disj a.wt r.at' with
      | false => rfl
      | true => have := disj_mem hd k (wT_mem hx); rw [hk] at this; cases this
    have confH : ∀ a k x, wH k a = some x → memN r.ah k = true → noConf a r = false := by
      intro a k x hx hk
      unfold noConf
      split
      · rfl
      · split
        · rfl
        · split
          · rfl
          · rename_i hd
            have := disj_mem hd k (wH_mem hx); rw [hk] at this; cases this
    have readT : ∀ k, memN r.at' k = true → stT rs (fun i => listed.getD i false) t k = txtT (rs.take j) t k := by
      intro k hk
      rw [txtT_val _ t k 0]
      unfold stT
      rw [val_read (rs.map (wT k)) _ 0 j (t k), List.map_take]
      intro m x hm
      rw [List.getElem?_map] at hm
      cases ha : rs[m]? with
      | none => rw [ha] at hm; simp at hm
      | some a =>
        rw [ha] at hm
        simp only [Option.map_some, Option.some.injEq] at hm
        rw [Nat.zero_add]
        rcases ahead m a ha (confT a k x hm hk) with h1 | h1
        · exact h1
        · subst h1
          rw [hunl]
          simp
    have readH : ∀ k, memN r.ah k = true → stH rs (fun i => listed.getD i false) h k = txtH (rs.take j) h k := by
      intro k hk
      rw [txtH_val _ h k 0]
      unfold stH
      rw [val_read (rs.map (wH k)) _ 0 j (h k), List.map_take]
      intro m x hm
      rw [List.getElem?_map] at hm
      cases ha : rs[m]? with
      | none => rw [ha] at hm; simp at hm
      | some a =>
        rw [ha] at hm
        simp only [Option.map_some, Option.some.injEq] at hm
        rw [Nat.zero_add]
        rcases ahead m a ha (confH a k x hm hk) with h1 | h1
        · exact h1
        · subst h1
          rw [hunl]
          simp
    have hset : ∀ m, (listed.setIfInBounds j true).getD m false = (decide (m = j) || listed.getD m false) := by
      intro m
      by_cases e : m = j
      · subst e
        have : m < listed.size := by omega
        simp [this]
      · simp [Array.getElem?_setIfInBounds_ne (Ne.symm e), e]
    have rt_at : ∀ k, memN r.rt k = true → memN r.at' k = true := by
      intro k hk
      unfold Rc.at'
      split
      · simp only [memN]; split
        · rfl
        · exact hk
      · exact hk
    have wt_at : ∀ k x, wT k r = some x → memN r.at' k = true := by
      intro k x hx
      unfold Rc.at'
      unfold wT at hx
      cases hd : r.dst with
      | none => rw [hd] at hx; simp at hx
      | some d =>
        rw [hd] at hx
        simp only at hx ⊢
        split at hx
        · rename_i hk; simp [memN, hk]
        · simp at hx
    have wh_ah : ∀ k x, wH k r = some x → memN r.ah k = true := by
      intro k x hx
      unfold Rc.ah
      rw [memN_app]
      have := wH_mem hx
      unfold Rc.wh at this
      rw [this]; rfl
    have nextT : stT rs (fun i => (listed.setIfInBounds j true).getD i false) t = putT (stT rs (fun i => listed.getD i false) t) r.dst r.x := by
      funext k
      have hw : (rs.map (wT k))[j]? = some (wT k r) := by rw [List.getElem?_map, hr]; rfl
      have := val_write (rs.map (wT k)) (fun i => listed.getD i false) (fun i => (listed.setIfInBounds j true).getD i false) 0 j (t k) (wT k r) hw
        (fun m _ => by simp only [Nat.zero_add]; exact hset m) ?_
      · unfold stT
        rw [this]
        unfold wT putT
        cases hd : r.dst with
        | none => rfl
        | some d =>
          simp only
          cases hk : Nat.beq d k with
          | true => have := beq_eq hk; subst this; simp
          | false =>
            have : k ≠ d := fun e => by subst e; simp at hk
            simp only
            rw [upd_other _ _ this]
      · intro hne m x hm hx
        rw [Nat.zero_add]
        rw [List.getElem?_map] at hx
        cases ha : rs[m]? with
        | none => rw [ha] at hx; simp at hx
        | some a =>
          rw [ha] at hx
          simp only [Option.map_some, Option.some.injEq] at hx
          cases hl : listed.getD m false with
          | false => rfl
          | true =>
            exfalso
            cases hwr : wT k r with
            | none => exact hne hwr
            | some y =>
              rcases ahead m a ha (confT a k x hx (wt_at k y hwr)) with h1 | h1
              · have := h1.1 hl; omega
              · omega
    have nextH : stH rs (fun i => (listed.setIfInBounds j true).getD i false) h = ovH r.ups (stH rs (fun i => listed.getD i false) h) := by
      funext k
      have hw : (rs.map (wH k))[j]? = some (wH k r) := by rw [List.getElem?_map, hr]; rfl
      have := val_write (rs.map (wH k)) (fun i => listed.getD i false) (fun i => (listed.setIfInBounds j true).getD i false) 0 j (h k) (wH k r) hw
        (fun m _ => by simp only [Nat.zero_add]; exact hset m) ?_
      · unfold stH
        rw [this]
        unfold wH ovH
        cases lk r.ups k with
        | none => rfl
        | some d => rfl
      · intro hne m x hm hx
        rw [Nat.zero_add]
        rw [List.getElem?_map] at hx
        cases ha : rs[m]? with
        | none => rw [ha] at hx; simp at hx
        | some a =>
          rw [ha] at hx
          simp only [Option.map_some, Option.some.injEq] at hx
          cases hl : listed.getD m false with
          | false => rfl
          | true =>
            exfalso
            cases hwr : wH k r with
            | none => exact hne hwr
            | some y =>
              rcases ahead m a ha (confH a k x hx (wh_ah k y hwr)) with h1 | h1
              · have := h1.1 hl; omega
              · omega
    have next : ∀ ρ' a' w', RelAt E ρ' (putT (stT rs (fun i => listed.getD i false) t) r.dst r.x) (ovH r.ups (stH rs (fun i => listed.getD i false) h)) a' w' → wpAny P .any ops Q fuel (listed.setIfInBounds j true) a' w' := by
      intro ρ' a' w' rel'
      refine ih (listed.setIfInBounds j true) ρ' a' w' (by simpa using hsz) ?_ ?_ ?_
      · have := left_step (n := ops.size) (f := fun i => listed.getD i false) (g := fun i => (listed.setIfInBounds j true).getD i false) hj hunl hset
        omega
      · intro i opi hopi hl e he hb
        rw [hset] at hl ⊢
        by_cases e1 : i = j
        · subst e1
          rw [hop] at hopi
          obtain rfl := Option.some.inj hopi
          rw [hedges e he hb]; simp
        · simp only [e1, decide_false, Bool.false_or] at hl
          rw [hclosed i opi hopi hl e he hb]; simp
      · rw [nextT, nextH]; exact rel'
    unfold wpOp
    simp only [hop]
    rcases loc.step _ _ (fun k hk => readT k (rt_at k hk)) readH with ⟨h1, h2⟩ | ⟨h1, h2, h3⟩
    · rw [h1 E ρ a w rel, if_pos rfl]
      refine .inl (h2 E ρ a w rel _ Q ?_)
      intro ρ' v w' rel' hv
      refine next ρ' _ w' ?_
      rw [loc.dst]
      exact rel'.putD hv (by rw [hn]; exact loc.ok)
    · rw [h1 E ρ a w rel, if_neg (by simp)]
      refine next ρ _ w ?_
      rw [loc.dst, h2, h3]
      have : ovH [] (stH rs (fun i => listed.getD i false) h) = stH rs (fun i => listed.getD i false) h := rfl
      rw [this]
      exact rel.putD (by simp only [VRel]) (by rw [hn]; exact loc.ok)

end Go.Own
