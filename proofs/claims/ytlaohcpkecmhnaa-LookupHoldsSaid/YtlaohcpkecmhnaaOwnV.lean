/-
Values as a function's own text sees them: data; references to blocks that are its own (or were handed in to be written). The relation to the model's values and world.
-/
import Derived.Test.YtlaohcpkecmhnaaOwnD

set_option linter.all false

namespace Go.Own

inductive V where
  | undef
  | d (x : D)
  | agg (cs : List V)
  | tup (vs : List V)
  | nils
  | ref (id off : Nat) (len cap : Option Nat)
  | ptr (id j c : Nat)
  | fn (f : Fn) (first caps : List V)
  | iface (t : TypeId) (v : V)
  | mapr (id : Nat)
  | nilx (b : Bool)
  deriving Inhabited

inductive Blk where
  | box (cs : List V)
  | row (sz : Nat) (es : List D)
  | dead
  | map (ks vs : List D)
  deriving Inhabited

/-- Where a block of the function's own lies: block, first cell, how many cells the model's block has. -/
structure Pl where
  b : Nat
  o : Nat
  n : Nat

abbrev Ren := Nat → Option Pl
abbrev Hp := Nat → Option Blk

def live : Option Blk → Bool
  | none => false
  | some .dead => false
  | _ => true

def RefRel (p : Option Pl) (k : Option Blk) (off : Nat) (len cap : Option Nat) (v : Value) : Prop :=
  match k with
  | some .dead => v.oneCell' = true
  | some (.row sz es) => off + len.getD (es.length - off) ≤ es.length ∧
    match p with
    | none => (∃ a, v = .slice a 0 0) ∧ len.getD (es.length - off) = 0 ∧ (cap = none ∨ cap = some 0)
    | some p => ∃ a c, v = .slice a (len.getD (es.length - off)) c ∧ len.getD (es.length - off) ≤ c ∧ (∀ k, cap = some k → c = k) ∧
        (c = 0 ∨ a = some ⟨p.b, p.o + off * sz, none⟩) ∧ p.o + (off + c) * sz ≤ p.n
  | _ => False

def PtrRel (p : Option Pl) (k : Option Blk) (j c : Nat) (v : Value) : Prop :=
  match k with
  | some .dead => v.oneCell' = true
  | some (.row sz _) => ∃ q, p = some q ∧ v = .pointer (some ⟨q.b, q.o + j * sz + c, none⟩)
  | some (.box _) => ∃ q, p = some q ∧ v = .pointer (some ⟨q.b, j + c, none⟩)
  | _ => False

def MapRel (p : Option Pl) (k : Option Blk) (v : Value) : Prop :=
  match k with
  | some .dead => v.oneCell' = true
  | some (.map _ _) => ∃ q, p = some q ∧ v = .map (some q.b)
  | _ => False

mutual
def VRel (w : World) (N : Nat → Prop) (ρ : Ren) (h : Hp) : V → Value → Prop
  | .undef, _ => True
  | .d x, v => DRel w N x v
  | .agg cs, v => ∃ a : Array Value, v = .agg a ∧ VRelL w N ρ h cs a.toList
  | .tup vs, v => ∃ a : Array Value, v = .tuple a ∧ VRelL w N ρ h vs a.toList
  | .nils, v => ∃ a, v = .slice a 0 0
  | .ref id off len cap, v => RefRel (ρ id) (h id) off len cap v
  | .ptr id j c, v => PtrRel (ρ id) (h id) j c v
  | .fn f first caps, v => ∃ fs cs : Array Value, v = .func f fs cs ∧ VRelL w N ρ h first fs.toList ∧ VRelL w N ρ h caps cs.toList
  | .iface t x, v => ∃ u, v = .iface t u ∧ VRel w N ρ h x u
  | .mapr id, v => MapRel (ρ id) (h id) v
  | .nilx b, v => ∃ (a : Option Addr) (c : Nat), v = .slice a 0 c ∧ a.isNone = b
def VRelL (w : World) (N : Nat → Prop) (ρ : Ren) (h : Hp) : List V → List Value → Prop
  | [], vs => vs = []
  | x :: xs, vs => ∃ v r, vs = v :: r ∧ VRel w N ρ h x v ∧ VRelL w N ρ h xs r
end

def BlkRel (w : World) (N : Nat → Prop) (ρ : Ren) (h : Hp) (p : Option Pl) : Blk → Prop
  | .box cs => ∃ q cells elem, p = some q ∧ w.heap[q.b]? = some (.cells cells elem (0, 0)) ∧ cells.size = q.n ∧ q.o = 0 ∧ VRelL w N ρ h cs cells.toList
  | .row sz es => (p = none ∧ es = []) ∨ ∃ q cells elem pre vs post, p = some q ∧ w.heap[q.b]? = some (.cells cells elem (0, 0)) ∧ cells.size = q.n ∧
      cells.toList = pre ++ vs ++ post ∧ pre.length = q.o ∧ DRelE w N sz es vs
  | .dead => True
  | .map ks vs => ∃ q es clock, p = some q ∧ q.o = 0 ∧ w.heap[q.b]? = some (.map es clock) ∧ DRelL w N ks (es.toList.map (·.key)) ∧ DRelL w N vs (es.toList.map (·.val))

/-- A block may go over into one of these without harm to those who refer to it. -/
def BlkLe : Option Blk → Option Blk → Prop
  | none, _ => True
  | _, some .dead => True
  | some (.row sz es), some (.row sz' es') => sz' = sz ∧ es'.length = es.length
  | some (.box _), some (.box _) => True
  | some (.map _ _), some (.map _ _) => True
  | _, _ => False

theorem BlkLe.refl (k : Option Blk) : BlkLe k k := by
  cases k with
  | none => trivial
  | some k => cases k <;> simp [BlkLe]

structure KeepV (w w' : World) (N N' : Nat → Prop) (ρ ρ' : Ren) (h h' : Hp) : Prop where
  data : Keep w w' N N'
  blk : ∀ id, BlkLe (h id) (h' id)
  pl : ∀ id, live (h id) = true → live (h' id) = true → ρ' id = ρ id

theorem RefRel.one {p : Option Pl} {k : Option Blk} {off : Nat} {len cap : Option Nat} {v : Value} (h : RefRel p k off len cap v) : v.oneCell' = true := by
  cases k with
  | none => simp [RefRel] at h
  | some k =>
    cases k with
    | dead => simpa only [RefRel] using h
    | row sz es =>
      cases p with
      | none => simp only [RefRel] at h; obtain ⟨_, ⟨a, rfl⟩, _⟩ := h; rfl
      | some p => simp only [RefRel] at h; obtain ⟨_, a, c, rfl, _⟩ := h; rfl
    | _ => simp [RefRel] at h

theorem PtrRel.one {p : Option Pl} {k : Option Blk} {j c : Nat} {v : Value} (h : PtrRel p k j c v) : v.oneCell' = true := by
  cases k with
  | none => simp [PtrRel] at h
  | some k =>
    cases k with
    | dead => simpa only [PtrRel] using h
    | map _ _ => simp [PtrRel] at h
    | _ => simp only [PtrRel] at h; obtain ⟨q, _, rfl⟩ := h; rfl

theorem MapRel.one {p : Option Pl} {k : Option Blk} {v : Value} (h : MapRel p k v) : v.oneCell' = true := by
  cases k with
  | none => simp [MapRel] at h
  | some k =>
    cases k with
    | dead => simpa only [MapRel] using h
    | map _ _ => simp only [MapRel] at h; obtain ⟨q, _, rfl⟩ := h; rfl
    | _ => simp [MapRel] at h

theorem RefRel.keep {p p' : Option Pl} {k k' : Option Blk} {off : Nat} {len cap : Option Nat} {v : Value} (hb : BlkLe k k') (hp : live k = true → live k' = true → p' = p) (h : RefRel p k off len cap v) : RefRel p' k' off len cap v := by
  have h1 := h.one
  cases k with
  | none => simp [RefRel] at h
  | some k =>
    cases k' with
    | none => cases k <;> simp [BlkLe] at hb
    | some k' =>
      cases k <;> cases k' <;> first
        | (simpa only [RefRel] using h1; done)
        | (simp [BlkLe] at hb; done)
        | (simp [RefRel] at h; done)
        | (have := hp rfl rfl
           subst this
           obtain ⟨rfl, he⟩ : _ ∧ _ := by simpa [BlkLe] using hb
           simp only [RefRel, he] at h ⊢
           exact h)

theorem PtrRel.keep {p p' : Option Pl} {k k' : Option Blk} {j c : Nat} {v : Value} (hb : BlkLe k k') (hp : live k = true → live k' = true → p' = p) (h : PtrRel p k j c v) : PtrRel p' k' j c v := by
  have h1 := h.one
  cases k with
  | none => simp [PtrRel] at h
  | some k =>
    cases k' with
    | none => cases k <;> simp [BlkLe] at hb
    | some k' =>
      cases k <;> cases k' <;> first
        | (simpa only [PtrRel] using h1; done)
        | (simp [BlkLe] at hb; done)
        | (simp [PtrRel] at h; done)
        | (have := hp rfl rfl
           subst this
           simp only [PtrRel] at h ⊢
           first | exact h | (obtain ⟨rfl, _⟩ : _ ∧ _ := by simpa [BlkLe] using hb
                              exact h))

theorem MapRel.keep {p p' : Option Pl} {k k' : Option Blk} {v : Value} (hb : BlkLe k k') (hp : live k = true → live k' = true → p' = p) (h : MapRel p k v) : MapRel p' k' v := by
  have h1 := h.one
  cases k with
  | none => simp [MapRel] at h
  | some k =>
    cases k' with
    | none => cases k <;> simp [BlkLe] at hb
    | some k' =>
      cases k <;> cases k' <;> first
        | (simpa only [MapRel] using h1; done)
        | (simp [BlkLe] at hb; done)
        | (simp [MapRel] at h; done)
        | (have := hp rfl rfl
           subst this
           exact h)

mutual
theorem VRel.keep {w w' : World} {N N' : Nat → Prop} {ρ ρ' : Ren} {h h' : Hp} (k : KeepV w w' N N' ρ ρ' h h') : ∀ (x : V) (v : Value), VRel w N ρ h x v → VRel w' N' ρ' h' x v
  | .undef, _, _ => by simp only [VRel]
  | .d x, v, r => by simp only [VRel] at r ⊢; exact DRel.keep k.data x v r
  | .agg cs, v, r => by
    simp only [VRel] at r ⊢
    obtain ⟨a, rfl, r⟩ := r
    exact ⟨a, rfl, VRelL.keep k cs _ r⟩
  | .tup cs, v, r => by
    simp only [VRel] at r ⊢
    obtain ⟨a, rfl, r⟩ := r
    exact ⟨a, rfl, VRelL.keep k cs _ r⟩
  | .nils, _, r => by simpa only [VRel] using r
  | .ref id off len cap, v, r => by simp only [VRel] at r ⊢; exact r.keep (k.blk id) (k.pl id)
  | .ptr id j c, v, r => by simp only [VRel] at r ⊢; exact r.keep (k.blk id) (k.pl id)
  | .fn f first caps, v, r => by
    simp only [VRel] at r ⊢
    obtain ⟨fs, cs, rfl, r1, r2⟩ := r
    exact ⟨fs, cs, rfl, VRelL.keep k _ _ r1, VRelL.keep k _ _ r2⟩
  | .iface t x, v, r => by
    simp only [VRel] at r ⊢
    obtain ⟨u, rfl, r⟩ := r
    exact ⟨u, rfl, VRel.keep k x u r⟩
  | .mapr id, v, r => by simp only [VRel] at r ⊢; exact r.keep (k.blk id) (k.pl id)
  | .nilx _, _, r => by simpa only [VRel] using r
theorem VRelL.keep {w w' : World} {N N' : Nat → Prop} {ρ ρ' : Ren} {h h' : Hp} (k : KeepV w w' N N' ρ ρ' h h') : ∀ (xs : List V) (vs : List Value), VRelL w N ρ h xs vs → VRelL w' N' ρ' h' xs vs
  | [], _, r => by simpa only [VRelL] using r
  | x :: xs, vs, r => by
    simp only [VRelL] at r ⊢
    obtain ⟨v, q, rfl, r1, r2⟩ := r
    exact ⟨v, q, rfl, VRel.keep k x v r1, VRelL.keep k xs q r2⟩
end

theorem VRelL.nil_iff {w : World} {N : Nat → Prop} {ρ : Ren} {h : Hp} {vs : List Value} : VRelL w N ρ h [] vs ↔ vs = [] := by simp only [VRelL]
theorem VRelL.cons_iff {w : World} {N : Nat → Prop} {ρ : Ren} {h : Hp} {x : V} {xs : List V} {vs : List Value} :
    VRelL w N ρ h (x :: xs) vs ↔ ∃ v r, vs = v :: r ∧ VRel w N ρ h x v ∧ VRelL w N ρ h xs r := by simp only [VRelL]

theorem VRelL.length {w : World} {N : Nat → Prop} {ρ : Ren} {h : Hp} : ∀ {xs : List V} {vs : List Value}, VRelL w N ρ h xs vs → vs.length = xs.length
  | [], _, r => by rw [VRelL.nil_iff] at r; subst r; rfl
  | x :: xs, _, r => by
    rw [VRelL.cons_iff] at r
    obtain ⟨v, q, rfl, _, r⟩ := r
    simp [r.length]

theorem VRelL.get {w : World} {N : Nat → Prop} {ρ : Ren} {h : Hp} : ∀ {xs : List V} {vs : List Value}, VRelL w N ρ h xs vs → ∀ (j : Nat) (x : V), xs[j]? = some x → ∃ v, vs[j]? = some v ∧ VRel w N ρ h x v
  | [], _, _, j, x, hj => by simp at hj
  | y :: xs, _, r, j, x, hj => by
    rw [VRelL.cons_iff] at r
    obtain ⟨v, q, rfl, h1, h2⟩ := r
    cases j with
    | zero => simp at hj; subst hj; exact ⟨v, rfl, h1⟩
    | succ j => simpa using h2.get j x (by simpa using hj)

theorem VRelL.append {w : World} {N : Nat → Prop} {ρ : Ren} {h : Hp} : ∀ {xs ys : List V} {vs us : List Value}, VRelL w N ρ h xs vs → VRelL w N ρ h ys us → VRelL w N ρ h (xs ++ ys) (vs ++ us)
  | [], ys, _, us, r, r' => by rw [VRelL.nil_iff] at r; subst r; simpa using r'
  | x :: xs, ys, _, us, r, r' => by
    rw [VRelL.cons_iff] at r
    obtain ⟨v, q, rfl, h1, h2⟩ := r
    rw [List.cons_append, List.cons_append, VRelL.cons_iff]
    exact ⟨v, _, rfl, h1, h2.append r'⟩

theorem VRelL.split {w : World} {N : Nat → Prop} {ρ : Ren} {h : Hp} : ∀ (n : Nat) {xs : List V} {vs : List Value}, VRelL w N ρ h xs vs → VRelL w N ρ h (xs.take n) (vs.take n) ∧ VRelL w N ρ h (xs.drop n) (vs.drop n)
  | 0, xs, vs, r => by simp only [List.take_zero, List.drop_zero]; exact ⟨by rw [VRelL.nil_iff], r⟩
  | n + 1, [], vs, r => by rw [VRelL.nil_iff] at r; subst r; simp [VRelL]
  | n + 1, x :: xs, vs, r => by
    rw [VRelL.cons_iff] at r
    obtain ⟨v, q, rfl, h1, h2⟩ := r
    obtain ⟨h3, h4⟩ := h2.split n
    refine ⟨?_, by simpa using h4⟩
    rw [List.take_succ_cons, List.take_succ_cons, VRelL.cons_iff]
    exact ⟨v, _, rfl, h1, h3⟩

theorem VRelL.take {w : World} {N : Nat → Prop} {ρ : Ren} {h : Hp} {xs : List V} {vs : List Value} (r : VRelL w N ρ h xs vs) (n : Nat) : VRelL w N ρ h (xs.take n) (vs.take n) := (r.split n).1
theorem VRelL.drop {w : World} {N : Nat → Prop} {ρ : Ren} {h : Hp} {xs : List V} {vs : List Value} (r : VRelL w N ρ h xs vs) (n : Nat) : VRelL w N ρ h (xs.drop n) (vs.drop n) := (r.split n).2

theorem VRelL.of_data {w : World} {N : Nat → Prop} {ρ : Ren} {h : Hp} : ∀ {ds : List D} {vs : List Value}, DRelL w N ds vs → VRelL w N ρ h (ds.map V.d) vs
  | [], _, r => by rw [DRelL.nil_iff] at r; subst r; simp [VRelL]
  | d :: ds, _, r => by
    rw [DRelL.cons_iff] at r
    obtain ⟨v, q, rfl, h1, h2⟩ := r
    rw [List.map_cons, VRelL.cons_iff]
    exact ⟨v, q, rfl, by simpa only [VRel] using h1, VRelL.of_data h2⟩

/-- All of them data. -/
def allD : List V → Option (List D)
  | [] => some []
  | .d x :: r => match allD r with
    | some xs => some (x :: xs)
    | none => none
  | _ :: _ => none

theorem VRelL.allD {w : World} {N : Nat → Prop} {ρ : Ren} {h : Hp} : ∀ {xs : List V} {ds : List D} {vs : List Value}, allD xs = some ds → VRelL w N ρ h xs vs → DRelL w N ds vs
  | [], ds, _, e, r => by
    simp only [Own.allD, Option.some.injEq] at e
    subst e
    rw [VRelL.nil_iff] at r; subst r; simp [DRelL]
  | x :: xs, ds, _, e, r => by
    rw [VRelL.cons_iff] at r
    obtain ⟨v, q, rfl, h1, h2⟩ := r
    cases x <;> simp only [Own.allD] at e <;> try (simp at e; done)
    rename_i x
    split at e
    · rename_i ys hy
      simp only [Option.some.injEq] at e
      subst e
      rw [DRelL.cons_iff]
      exact ⟨v, q, rfl, by simpa only [VRel] using h1, VRelL.allD hy h2⟩
    · simp at e

/-- A struct or an array out of its cells. -/
def mkAgg (cs : List V) : V := match allD cs with | some ds => .d (.agg ds) | none => .agg cs

theorem VRel.mkAgg {w : World} {N : Nat → Prop} {ρ : Ren} {h : Hp} {cs : List V} {vs : Array Value} (r : VRelL w N ρ h cs vs.toList) : VRel w N ρ h (mkAgg cs) (.agg vs) := by
  unfold Own.mkAgg
  split
  · rename_i ds hd
    simp only [VRel, DRel]
    exact ⟨vs, rfl, r.allD hd⟩
  · simp only [VRel]
    exact ⟨vs, rfl, r⟩

/-- The cells of a value. -/
def V.cells : V → Option (List V)
  | .undef => none
  | .tup _ => none
  | .d (.agg ds) => some (ds.map V.d)
  | .agg cs => some cs
  | v => some [v]

theorem cells_one {v : Value} (h : v.oneCell' = true) : v.cells.toList = [v] := by
  cases v <;> first | rfl | simp [Value.oneCell'] at h

theorem VRel.cells {w : World} {N : Nat → Prop} {ρ : Ren} {h : Hp} {x : V} {v : Value} {cs : List V} (r : VRel w N ρ h x v) (hc : x.cells = some cs) : VRelL w N ρ h cs v.cells.toList := by
  have one : v.oneCell' = true → cs = [x] → VRelL w N ρ h cs v.cells.toList := by
    intro h1 h2
    rw [h2, cells_one h1, VRelL.cons_iff]
    exact ⟨v, [], rfl, r, by rw [VRelL.nil_iff]⟩
  cases x with
  | undef => simp [V.cells] at hc
  | tup _ => simp [V.cells] at hc
  | d x =>
    have r' := r
    simp only [VRel] at r'
    have := r'.cells
    cases x <;> simp only [V.cells, Option.some.injEq] at hc <;> subst hc <;> exact VRelL.of_data this
  | agg cs' =>
    simp only [V.cells, Option.some.injEq] at hc
    subst hc
    simp only [VRel] at r
    obtain ⟨a, rfl, r⟩ := r
    exact r
  | nils =>
    simp only [V.cells, Option.some.injEq] at hc
    have r' := r
    simp only [VRel] at r'
    obtain ⟨a, rfl⟩ := r'
    exact one rfl hc.symm
  | nilx b =>
    simp only [V.cells, Option.some.injEq] at hc
    have r' := r
    simp only [VRel] at r'
    obtain ⟨a, c, rfl, _⟩ := r'
    exact one rfl hc.symm
  | ref id off len cap =>
    simp only [V.cells, Option.some.injEq] at hc
    have r' := r
    simp only [VRel] at r'
    exact one r'.one hc.symm
  | ptr id j c =>
    simp only [V.cells, Option.some.injEq] at hc
    have r' := r
    simp only [VRel] at r'
    exact one r'.one hc.symm
  | mapr id =>
    simp only [V.cells, Option.some.injEq] at hc
    have r' := r
    simp only [VRel] at r'
    exact one r'.one hc.symm
  | fn f first caps =>
    simp only [V.cells, Option.some.injEq] at hc
    have r' := r
    simp only [VRel] at r'
    obtain ⟨fs, cs, rfl, _, _⟩ := r'
    exact one rfl hc.symm
  | iface t x =>
    simp only [V.cells, Option.some.injEq] at hc
    have r' := r
    simp only [VRel] at r'
    obtain ⟨u, rfl, _⟩ := r'
    exact one rfl hc.symm

end Go.Own
