/-
Immutable data and how it lies in memory. D: what a value reads as, whatever block it lies in, so long as that block is none of those that are written (N).
-/
import Derived.Orders
import Derived.Laws.Rows
import Derived.KernelRfl

set_option linter.all false

namespace Go.Own

inductive D where
  | bool (b : Bool)
  | int (k : IntKind) (n : Int)
  | str (s : ByteArray)
  | agg (ds : List D)
  | sl (sz : Nat) (es : List D)
  | ptr (cs : List D)
  | nilp
  | fn (f : Fn) (first caps : List D)
  | nilfn
  | iface (t : TypeId) (d : D)
  | nilif
  | map (ks vs : List D)
  | nilmap
  deriving Inhabited

/-- The cells of a datum. -/
def D.cells : D → List D
  | .agg ds => ds
  | d => [d]

def D.isAgg : D → Bool
  | .agg _ => true
  | _ => false

/-- From cell 'off' of block 'b' on these values lie. -/
def CellsAt (w : World) (b off : Nat) (vs : List Value) : Prop := ∀ j u, vs[j]? = some u → w.cell? ⟨b, off + j, none⟩ = some u

mutual
def DRel (w : World) (N : Nat → Prop) : D → Value → Prop
  | .bool b, v => v = .bool b
  | .int k n, v => v = .int k n
  | .str s, v => v = .string s
  | .agg ds, v => ∃ cs : Array Value, v = .agg cs ∧ DRelL w N ds cs.toList
  | .sl sz es, v => ∃ a len cap, v = .slice a len cap ∧ len = es.length ∧ len ≤ cap ∧
      (es = [] ∨ ∃ b off vs, a = some ⟨b, off, none⟩ ∧ ¬ N b ∧ b < w.heap.size ∧ CellsAt w b off vs ∧ DRelE w N sz es vs)
  | .ptr cs, v => ∃ b off vs, v = .pointer (some ⟨b, off, none⟩) ∧ ¬ N b ∧ b < w.heap.size ∧ CellsAt w b off vs ∧ DRelL w N cs vs
  | .nilp, v => v = .pointer none
  | .fn f first caps, v => ∃ fs cs : Array Value, v = .func f fs cs ∧ DRelL w N first fs.toList ∧ DRelL w N caps cs.toList
  | .nilfn, v => v = .nilFunc
  | .iface t d, v => ∃ x, v = .iface t x ∧ DRel w N d x
  | .nilif, v => v = .nilIface
  | .map ks vs, v => ∃ b es clock, v = .map (some b) ∧ ¬ N b ∧ b < w.heap.size ∧ w.heap[b]? = some (.map es clock) ∧
      DRelL w N ks (es.toList.map (·.key)) ∧ DRelL w N vs (es.toList.map (·.val))
  | .nilmap, v => v = .map none
def DRelL (w : World) (N : Nat → Prop) : List D → List Value → Prop
  | [], vs => vs = []
  | d :: ds, vs => ∃ v r, vs = v :: r ∧ DRel w N d v ∧ DRelL w N ds r
def DRelE (w : World) (N : Nat → Prop) (sz : Nat) : List D → List Value → Prop
  | [], vs => vs = []
  | d :: ds, vs => ∃ v r, vs = v.cells.toList ++ r ∧ v.cells.size = sz ∧ DRel w N d v ∧ DRelE w N sz ds r
end

/-- What must be kept for data to read as it did. -/
structure Keep (w w' : World) (N N' : Nat → Prop) : Prop where
  size : w.heap.size ≤ w'.heap.size
  same : ∀ b, b < w.heap.size → ¬ N b → w'.heap[b]? = w.heap[b]?
  less : ∀ b, b < w.heap.size → N' b → N b

theorem cell_of_same {w w' : World} {a : Addr} (h : w'.heap[a.block]? = w.heap[a.block]?) : w'.cell? a = w.cell? a := by simp [World.cell?, h]

theorem CellsAt.keep {w w' : World} {N N' : Nat → Prop} (k : Keep w w' N N') {b off : Nat} {vs : List Value} (hb : b < w.heap.size) (hN : ¬ N b) (h : CellsAt w b off vs) : CellsAt w' b off vs := by
  intro j u hu
  rw [cell_of_same (w := w) (k.same b hb hN)]
  exact h j u hu

mutual
theorem DRel.keep {w w' : World} {N N' : Nat → Prop} (k : Keep w w' N N') : ∀ (d : D) (v : Value), DRel w N d v → DRel w' N' d v
  | .bool _, _, h => by simpa only [DRel] using h
  | .int _ _, _, h => by simpa only [DRel] using h
  | .str _, _, h => by simpa only [DRel] using h
  | .agg ds, v, h => by
    simp only [DRel] at h ⊢
    obtain ⟨cs, rfl, h⟩ := h
    exact ⟨cs, rfl, DRelL.keep k ds _ h⟩
  | .sl sz es, v, h => by
    simp only [DRel] at h ⊢
    obtain ⟨a, len, cap, rfl, rfl, hc, h⟩ := h
    refine ⟨a, _, cap, rfl, rfl, hc, ?_⟩
    rcases h with h | ⟨b, off, vs, rfl, hN, hb, hcs, he⟩
    · exact .inl h
    · exact .inr ⟨b, off, vs, rfl, fun x => hN (k.less b hb x), Nat.lt_of_lt_of_le hb k.size, hcs.keep k hb hN, DRelE.keep k sz es _ he⟩
  | .ptr cs, v, h => by
    simp only [DRel] at h ⊢
    obtain ⟨b, off, vs, rfl, hN, hb, hcs, he⟩ := h
    exact ⟨b, off, vs, rfl, fun x => hN (k.less b hb x), Nat.lt_of_lt_of_le hb k.size, hcs.keep k hb hN, DRelL.keep k cs _ he⟩
  | .nilp, _, h => by simpa only [DRel] using h
  | .fn f first caps, v, h => by
    simp only [DRel] at h ⊢
    obtain ⟨fs, cs, rfl, h1, h2⟩ := h
    exact ⟨fs, cs, rfl, DRelL.keep k _ _ h1, DRelL.keep k _ _ h2⟩
  | .nilfn, _, h => by simpa only [DRel] using h
  | .iface t d, v, h => by
    simp only [DRel] at h ⊢
    obtain ⟨x, rfl, h⟩ := h
    exact ⟨x, rfl, DRel.keep k d x h⟩
  | .nilif, _, h => by simpa only [DRel] using h
  | .map ks vs, v, h => by
    simp only [DRel] at h ⊢
    obtain ⟨b, es, clock, rfl, hN, hb, hm, h1, h2⟩ := h
    exact ⟨b, es, clock, rfl, fun x => hN (k.less b hb x), Nat.lt_of_lt_of_le hb k.size, by rw [k.same b hb hN]; exact hm, DRelL.keep k _ _ h1, DRelL.keep k _ _ h2⟩
  | .nilmap, _, h => by simpa only [DRel] using h
theorem DRelL.keep {w w' : World} {N N' : Nat → Prop} (k : Keep w w' N N') : ∀ (ds : List D) (vs : List Value), DRelL w N ds vs → DRelL w' N' ds vs
  | [], _, h => by simpa only [DRelL] using h
  | d :: ds, vs, h => by
    simp only [DRelL] at h ⊢
    obtain ⟨v, r, rfl, h1, h2⟩ := h
    exact ⟨v, r, rfl, DRel.keep k d v h1, DRelL.keep k ds r h2⟩
theorem DRelE.keep {w w' : World} {N N' : Nat → Prop} (k : Keep w w' N N') (sz : Nat) : ∀ (ds : List D) (vs : List Value), DRelE w N sz ds vs → DRelE w' N' sz ds vs
  | [], _, h => by simpa only [DRelE] using h
  | d :: ds, vs, h => by
    simp only [DRelE] at h ⊢
    obtain ⟨v, r, rfl, hs, h1, h2⟩ := h
    exact ⟨v, r, rfl, hs, DRel.keep k d v h1, DRelE.keep k sz ds r h2⟩
end

/-! ### Lists -/
theorem DRelL.nil_iff {w : World} {N : Nat → Prop} {vs : List Value} : DRelL w N [] vs ↔ vs = [] := by simp only [DRelL]
theorem DRelL.cons_iff {w : World} {N : Nat → Prop} {d : D} {ds : List D} {vs : List Value} :
    DRelL w N (d :: ds) vs ↔ ∃ v r, vs = v :: r ∧ DRel w N d v ∧ DRelL w N ds r := by simp only [DRelL]
theorem DRelE.nil_iff {w : World} {N : Nat → Prop} {sz : Nat} {vs : List Value} : DRelE w N sz [] vs ↔ vs = [] := by simp only [DRelE]
theorem DRelE.cons_iff {w : World} {N : Nat → Prop} {sz : Nat} {d : D} {ds : List D} {vs : List Value} :
    DRelE w N sz (d :: ds) vs ↔ ∃ v r, vs = v.cells.toList ++ r ∧ v.cells.size = sz ∧ DRel w N d v ∧ DRelE w N sz ds r := by simp only [DRelE]

theorem DRelL.length {w : World} {N : Nat → Prop} : ∀ {ds : List D} {vs : List Value}, DRelL w N ds vs → vs.length = ds.length
  | [], _, h => by rw [DRelL.nil_iff] at h; subst h; rfl
  | d :: ds, _, h => by
    rw [DRelL.cons_iff] at h
    obtain ⟨v, r, rfl, _, h⟩ := h
    simp [h.length]

theorem DRelE.length {w : World} {N : Nat → Prop} {sz : Nat} : ∀ {ds : List D} {vs : List Value}, DRelE w N sz ds vs → vs.length = ds.length * sz
  | [], _, h => by rw [DRelE.nil_iff] at h; subst h; simp
  | d :: ds, _, h => by
    rw [DRelE.cons_iff] at h
    obtain ⟨v, r, rfl, hs, _, h⟩ := h
    simp only [List.length_append, h.length, Array.length_toList, hs, List.length_cons, Nat.add_mul, Nat.one_mul]
    omega

theorem DRelL.get {w : World} {N : Nat → Prop} : ∀ {ds : List D} {vs : List Value}, DRelL w N ds vs → ∀ (j : Nat) (d : D), ds[j]? = some d → ∃ v, vs[j]? = some v ∧ DRel w N d v
  | [], _, _, j, d, hj => by simp at hj
  | x :: ds, _, h, j, d, hj => by
    rw [DRelL.cons_iff] at h
    obtain ⟨v, r, rfl, h1, h2⟩ := h
    cases j with
    | zero => simp at hj; subst hj; exact ⟨v, rfl, h1⟩
    | succ j => simpa using h2.get j d (by simpa using hj)

theorem DRelL.append {w : World} {N : Nat → Prop} : ∀ {ds es : List D} {vs us : List Value}, DRelL w N ds vs → DRelL w N es us → DRelL w N (ds ++ es) (vs ++ us)
  | [], es, _, us, h, h' => by rw [DRelL.nil_iff] at h; subst h; simpa using h'
  | d :: ds, es, _, us, h, h' => by
    rw [DRelL.cons_iff] at h
    obtain ⟨v, r, rfl, h1, h2⟩ := h
    rw [List.cons_append, List.cons_append, DRelL.cons_iff]
    exact ⟨v, _, rfl, h1, h2.append h'⟩

theorem DRelL.split {w : World} {N : Nat → Prop} : ∀ (n : Nat) {ds : List D} {vs : List Value}, DRelL w N ds vs → DRelL w N (ds.take n) (vs.take n) ∧ DRelL w N (ds.drop n) (vs.drop n)
  | 0, ds, vs, h => by simp only [List.take_zero, List.drop_zero]; exact ⟨by rw [DRelL.nil_iff], h⟩
  | n + 1, [], vs, h => by rw [DRelL.nil_iff] at h; subst h; simp [DRelL]
  | n + 1, d :: ds, vs, h => by
    rw [DRelL.cons_iff] at h
    obtain ⟨v, r, rfl, h1, h2⟩ := h
    obtain ⟨h3, h4⟩ := h2.split n
    refine ⟨?_, by simpa using h4⟩
    rw [List.take_succ_cons, List.take_succ_cons, DRelL.cons_iff]
    exact ⟨v, _, rfl, h1, h3⟩

theorem DRelL.take {w : World} {N : Nat → Prop} {ds : List D} {vs : List Value} (h : DRelL w N ds vs) (n : Nat) : DRelL w N (ds.take n) (vs.take n) := (h.split n).1
theorem DRelL.drop {w : World} {N : Nat → Prop} {ds : List D} {vs : List Value} (h : DRelL w N ds vs) (n : Nat) : DRelL w N (ds.drop n) (vs.drop n) := (h.split n).2

theorem DRelE.append {w : World} {N : Nat → Prop} {sz : Nat} : ∀ {ds es : List D} {vs us : List Value}, DRelE w N sz ds vs → DRelE w N sz es us → DRelE w N sz (ds ++ es) (vs ++ us)
  | [], es, _, us, h, h' => by rw [DRelE.nil_iff] at h; subst h; simpa using h'
  | d :: ds, es, _, us, h, h' => by
    rw [DRelE.cons_iff] at h
    obtain ⟨v, r, rfl, hs, h1, h2⟩ := h
    rw [List.cons_append, DRelE.cons_iff]
    exact ⟨v, _, by rw [List.append_assoc], hs, h1, h2.append h'⟩

theorem DRelE.split {w : World} {N : Nat → Prop} {sz : Nat} : ∀ (n : Nat) {ds : List D} {vs : List Value}, DRelE w N sz ds vs → DRelE w N sz (ds.take n) (vs.take (n * sz)) ∧ DRelE w N sz (ds.drop n) (vs.drop (n * sz))
  | 0, ds, vs, h => by simp only [Nat.zero_mul, List.take_zero, List.drop_zero]; exact ⟨by rw [DRelE.nil_iff], h⟩
  | n + 1, [], vs, h => by rw [DRelE.nil_iff] at h; subst h; simp [DRelE]
  | n + 1, d :: ds, vs, h => by
    rw [DRelE.cons_iff] at h
    obtain ⟨v, r, rfl, hs, h1, h2⟩ := h
    obtain ⟨h3, h4⟩ := h2.split n
    have e1 : (v.cells.toList ++ r).take ((n + 1) * sz) = v.cells.toList ++ r.take (n * sz) := by
      rw [List.take_append]
      have : v.cells.toList.length = sz := by simpa using hs
      rw [List.take_of_length_le (by rw [this, Nat.add_mul]; omega), this]
      congr 2
      rw [Nat.add_mul]; omega
    have e2 : (v.cells.toList ++ r).drop ((n + 1) * sz) = r.drop (n * sz) := by
      rw [List.drop_append]
      have : v.cells.toList.length = sz := by simpa using hs
      rw [List.drop_of_length_le (by rw [this, Nat.add_mul]; omega), this, List.nil_append]
      congr 1
      rw [Nat.add_mul]; omega
    rw [e1, e2, List.take_succ_cons, List.drop_succ_cons, DRelE.cons_iff]
    exact ⟨⟨v, _, rfl, hs, h1, h3⟩, h4⟩

theorem DRelE.take {w : World} {N : Nat → Prop} {sz : Nat} {ds : List D} {vs : List Value} (h : DRelE w N sz ds vs) (n : Nat) : DRelE w N sz (ds.take n) (vs.take (n * sz)) := (h.split n).1
theorem DRelE.drop {w : World} {N : Nat → Prop} {sz : Nat} {ds : List D} {vs : List Value} (h : DRelE w N sz ds vs) (n : Nat) : DRelE w N sz (ds.drop n) (vs.drop (n * sz)) := (h.split n).2

/-- Element number j: its cells. -/
theorem DRelE.get {w : World} {N : Nat → Prop} {sz : Nat} : ∀ {ds : List D} {vs : List Value}, DRelE w N sz ds vs → ∀ (j : Nat) (d : D), ds[j]? = some d →
    ∃ v : Value, v.cells.size = sz ∧ DRel w N d v ∧ ∃ pre post, vs = pre ++ v.cells.toList ++ post ∧ pre.length = j * sz ∧ DRelE w N sz (ds.take j) pre ∧ DRelE w N sz (ds.drop (j + 1)) post
  | [], _, _, j, d, hj => by simp at hj
  | x :: ds, _, h, j, d, hj => by
    rw [DRelE.cons_iff] at h
    obtain ⟨v, r, rfl, hs, h1, h2⟩ := h
    cases j with
    | zero =>
      simp at hj
      subst hj
      exact ⟨v, hs, h1, [], r, by simp, by simp, by simp [DRelE], by simpa using h2⟩
    | succ j =>
      obtain ⟨u, hu, hd, pre, post, rfl, hl, h3, h4⟩ := h2.get j d (by simpa using hj)
      refine ⟨u, hu, hd, v.cells.toList ++ pre, post, by simp, ?_, ?_, by simpa using h4⟩
      · simp only [List.length_append, Array.length_toList, hs, hl, Nat.add_mul, Nat.one_mul]; omega
      · rw [List.take_succ_cons, DRelE.cons_iff]; exact ⟨v, pre, rfl, hs, h1, h3⟩

theorem DRelE.set {w : World} {N : Nat → Prop} {sz : Nat} {ds : List D} {pre post : List Value} {j : Nat} {d : D} {v : Value}
    (h1 : DRelE w N sz (ds.take j) pre) (hs : v.cells.size = sz) (hd : DRel w N d v) (h2 : DRelE w N sz (ds.drop (j + 1)) post) (hj : j < ds.length) :
    DRelE w N sz (ds.set j d) (pre ++ v.cells.toList ++ post) := by
  rw [List.set_eq_take_append_cons_drop, if_pos hj, List.append_assoc]
  refine h1.append ?_
  rw [DRelE.cons_iff]
  exact ⟨v, post, rfl, hs, hd, h2⟩

/-- Cells of the value of a datum. -/
theorem DRel.cells {w : World} {N : Nat → Prop} {d : D} {v : Value} (h : DRel w N d v) : DRelL w N d.cells v.cells.toList := by
  cases d with
  | agg ds =>
    simp only [DRel] at h
    obtain ⟨cs, rfl, h⟩ := h
    exact h
  | _ =>
    simp only [D.cells, DRelL.cons_iff, DRelL.nil_iff]
    have hc : v.cells.toList = [v] := by
      simp only [DRel] at h
      first
        | (subst h; rfl)
        | (obtain ⟨_, _, _, rfl, _⟩ := h; rfl)
        | (obtain ⟨_, _, rfl, _⟩ := h; rfl)
        | (obtain ⟨_, rfl, _⟩ := h; rfl)
    exact ⟨v, [], by rw [hc], h, rfl⟩

theorem DRel.one {w : World} {N : Nat → Prop} {d : D} {v : Value} (h : DRel w N d v) (hd : d.isAgg = false) : v.cells.toList = [v] ∧ v.oneCell' = true := by
  cases d with
  | agg ds => simp [D.isAgg] at hd
  | _ =>
    simp only [DRel] at h
    first
      | (subst h; exact ⟨rfl, rfl⟩)
      | (obtain ⟨_, _, _, rfl, _⟩ := h; exact ⟨rfl, rfl⟩)
      | (obtain ⟨_, _, rfl, _⟩ := h; exact ⟨rfl, rfl⟩)
      | (obtain ⟨_, rfl, _⟩ := h; exact ⟨rfl, rfl⟩)

/-- One cell each. -/
def D.plainL : List D → Bool
  | [] => true
  | d :: ds => !d.isAgg && D.plainL ds

end Go.Own
