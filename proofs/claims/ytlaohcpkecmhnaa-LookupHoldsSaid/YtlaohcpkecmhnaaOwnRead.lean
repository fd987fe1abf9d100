/-
From the reading of arguments to data: what reads as plain data is data.
-/
import Derived.Test.YtlaohcpkecmhnaaOwnFn
import GoSem.ClaimJoined
import Derived.ChangeShapes
import Derived.ChangeSame
import Derived.OpenShut
import Derived.Carry
import Derived.RowKit
import Derived.ChangeArms

set_option linter.all false

namespace Go.Own
open Go (Value IntKind BinOp UnOp TypeId FuncId)

variable {P : Program} {H : Type}

/-- Parts, one behind the other. -/
def RdL (P : Program) (R : TypeId → DataW H → List D → Prop) : List TypeId → List (DataW H) → List D → Prop
  | [], [], ds => ds = []
  | t :: ts, x :: xs, ds => ∃ d1 d2, ds = d1 ++ d2 ∧ d1.length = P.cellsOf t ∧ R t x d1 ∧ RdL P R ts xs d2
  | _, _, _ => False

/-- Elements of a list. -/
def RdE (P : Program) (R : TypeId → DataW H → List D → Prop) (e : TypeId) : List (DataW H) → List D → Prop
  | [], es => es = []
  | x :: xs, es => ∃ y ys, es = y :: ys ∧ R e x y.cells ∧ y.isAgg = isRow P e ∧ RdE P R e xs ys

/-- How a reading of plain data is told as data, to a depth. -/
def Rd (P : Program) : Nat → TypeId → DataW H → List D → Prop
  | 0, _, _, _ => False
  | n + 1, t, d, ds => match P.underlying t with
    | some .bool => ∃ b, d = .lit (.bool b) ∧ ds = [.bool b]
    | some (.int k) => ∃ m, d = .lit (.int k m) ∧ ds = [.int k m] ∧ (Lit.int k m).wf = true
    | some .string => ∃ s : ByteArray, d = .lit (.string s.data.toList) ∧ ds = [.str s]
    | some (.slice e) => (d = .nil ∧ ds = [.sl (P.cellsOf e) []]) ∨ ∃ xs sp es, d = .slice xs sp ∧ ds = [.sl (P.cellsOf e) es] ∧ es.length = xs.length ∧ RdE P (Rd P n) e xs es
    | some (.struct fs) => ∃ xs, d = .agg xs ∧ RdL P (Rd P n) (fs.toList.map (·.type)) xs ds
    | some (.array m e) => ∃ xs, d = .agg xs ∧ RdL P (Rd P n) (List.replicate m e) xs ds
    | _ => False

def contigB (P : Program) : List Field → Nat → Option Nat
  | [], o => some o
  | f :: fs, o => match Nat.beq f.offset o with
    | true => contigB P fs (o + P.cellsOf f.type)
    | false => none

/-- The kinds that are told. -/
def sim (P : Program) : Nat → TypeId → Bool
  | 0, _ => false
  | n + 1, t => match P.underlying t with
    | some .bool => true
    | some (.int _) => true
    | some .string => true
    | some (.slice e) => sim P n e && Nat.blt 0 (P.cellsOf e)
    | some (.struct fs) => fs.toList.all (fun f => sim P n f.type) && (match contigB P fs.toList 0 with | some o => Nat.beq o (P.cellsOf t) | none => false)
    | some (.array m e) => sim P n e && Nat.beq (m * P.cellsOf e) (P.cellsOf t)
    | _ => false

theorem mapM_cons_some {α β : Type} {f : α → Option β} {a : α} {l : List α} {ys : List β} (h : (a :: l).mapM f = some ys) : ∃ y r, f a = some y ∧ l.mapM f = some r ∧ ys = y :: r := by
  rw [List.mapM_cons] at h
  cases h1 : f a with
  | none => rw [h1] at h; cases h
  | some y =>
    rw [h1] at h
    cases h2 : l.mapM f with
    | none => rw [h2] at h; cases h
    | some r => rw [h2] at h; cases h; exact ⟨y, r, rfl, rfl, rfl⟩

theorem mapM_length {α β : Type} {f : α → Option β} : ∀ {l : List α} {ys : List β}, l.mapM f = some ys → ys.length = l.length
  | [], ys, h => by simp at h; subst h; rfl
  | a :: l, ys, h => by
    obtain ⟨y, r, _, h2, rfl⟩ := mapM_cons_some h
    simp [mapM_length h2]

theorem mapM_at {α β : Type} {f : α → Option β} : ∀ {l : List α} {ys : List β}, l.mapM f = some ys → ∀ (j : Nat) (a : α), l[j]? = some a → ∃ y, ys[j]? = some y ∧ f a = some y
  | [], _, _, j, a, hj => by simp at hj
  | b :: l, ys, h, j, a, hj => by
    obtain ⟨y, r, h1, h2, rfl⟩ := mapM_cons_some h
    cases j with
    | zero => simp at hj; subst hj; exact ⟨y, rfl, h1⟩
    | succ j => simpa using mapM_at h2 j a (by simpa using hj)

abbrev no : Nat → Prop := fun _ => False

/-- One cell that is no struct and no array. -/
theorem isAgg_cells {d : D} (h : d.isAgg = false) : d.cells = [d] := by
  cases d <;> first | rfl | simp [D.isAgg] at h

/-- Parts that lie one behind the other. -/
theorem read_parts {w : World} {R : TypeId → DataW H → List D → Prop} {rd : TypeId → List Value → Option (DataW H × List MemPlace)} (cs : List Value) :
    ∀ (ts : List TypeId) (offs : List Nat) (o : Nat) (xs : List (DataW H × List MemPlace)), offs.length = ts.length →
      (∀ (j : Nat) (t : TypeId), ts[j]? = some t → offs[j]? = some (o + ((ts.take j).map P.cellsOf).sum)) →
      (∀ (j : Nat) (t : TypeId) (a : Nat), ts[j]? = some t → offs[j]? = some a → ∃ x, xs[j]? = some x ∧ rd t ((cs.drop a).take (P.cellsOf t)) = some x) → xs.length = ts.length →
      (∀ t ∈ ts, ∀ c x, rd t c = some x → ∃ ds, DRelL w no ds c ∧ R t x.1 ds) →
      cs.length = o + (ts.map P.cellsOf).sum → ∃ ds, DRelL w no ds (cs.drop o) ∧ RdL P R ts (xs.map (·.1)) ds
  | [], [], o, xs, _, _, _, hx, _, hl => by
    have : xs = [] := List.eq_nil_of_length_eq_zero (by simpa using hx)
    subst this
    simp at hl
    exact ⟨[], by rw [List.drop_of_length_le (by omega), DRelL.nil_iff], rfl⟩
  | [], _ :: _, _, _, h, _, _, _, _, _ => by simp at h
  | _ :: _, [], _, _, h, _, _, _, _, _ => by simp at h
  | t :: ts, a :: offs, o, [], _, _, _, hx, _, _ => by simp at hx
  | t :: ts, a :: offs, o, x :: xs, h, ho, hr, hx, hR, hl => by
    have ha : a = o := by
      have := ho 0 t rfl
      simpa using this
    subst ha
    obtain ⟨x', hx', hrd⟩ := hr 0 t a rfl rfl
    simp at hx'
    subst hx'
    obtain ⟨d1, r1, R1⟩ := hR t (by simp) _ _ hrd
    simp only [List.map_cons, List.sum_cons] at hl
    obtain ⟨d2, r2, R2⟩ := read_parts cs ts offs (a + P.cellsOf t) xs (by simpa using h) (fun (j : Nat) (t' : TypeId) hj => by
        have := ho (j + 1) t' (by simpa using hj)
        simp only [List.getElem?_cons_succ, List.take_succ_cons, List.map_cons, List.sum_cons] at this
        rw [this, Nat.add_assoc]) (fun (j : Nat) (t' : TypeId) (a' : Nat) (h1 : ts[j]? = some t') (h2 : offs[j]? = some a') => by
        obtain ⟨y, h3, h4⟩ := hr (j + 1) t' a' (by simpa using h1) (by simpa using h2)
        exact ⟨y, by simpa using h3, h4⟩) (by simpa using hx) (fun t' ht' => hR t' (by simp [ht'])) (by omega)
    refine ⟨d1 ++ d2, ?_, d1, d2, rfl, ?_, R1, R2⟩
    · have e : cs.drop a = (cs.drop a).take (P.cellsOf t) ++ cs.drop (a + P.cellsOf t) := by
        rw [← List.drop_drop, List.take_append_drop]
      rw [e]
      exact r1.append r2
    · have := r1.length
      rw [List.length_take, List.length_drop] at this
      omega

theorem offs_contig {P : Program} : ∀ (fs : List Field) (o tot : Nat), contigB P fs o = some tot → tot = o + ((fs.map (·.type)).map P.cellsOf).sum ∧ ∀ j f, fs[j]? = some f → f.offset = o + (((fs.map (·.type)).take j).map P.cellsOf).sum
  | [], o, tot, h => by simp [contigB] at h; subst h; simp
  | f :: fs, o, tot, h => by
    simp only [contigB] at h
    split at h
    · rename_i hb
      have hb := beq_eq hb
      obtain ⟨h1, h2⟩ := offs_contig fs _ _ h
      refine ⟨by simp only [List.map_cons, List.sum_cons]; omega, fun j g hj => ?_⟩
      cases j with
      | zero => simp at hj; subst hj; simpa using hb
      | succ j =>
        have := h2 j g (by simpa using hj)
        simp only [List.map_cons, List.take_succ_cons, List.sum_cons]
        omega
    · cases h

theorem sum_rep (m c : Nat) : ((List.replicate m c)).sum = m * c := by
  induction m with
  | zero => simp
  | succ m ih => rw [List.replicate_succ, List.sum_cons, ih, Nat.add_mul]; omega

theorem rows_read {w : World} {e : TypeId} {R : TypeId → DataW H → List D → Prop} {rd : List Value → Option (DataW H × List MemPlace)} {b o : Nat} (hpos : 0 < P.cellsOf e)
    (hR : ∀ c x, rd c = some x → c.length = P.cellsOf e → ∃ ds, DRelL w no ds c ∧ R e x.1 ds ∧ (isRow P e = false → ∃ y, ds = [y] ∧ y.isAgg = false)) :
    ∀ (elems : List (DataW H × List MemPlace)) (i0 : Nat), (∀ i, i < elems.length → (w.cells? 0 ⟨b, o + (i0 + i) * P.cellsOf e, none⟩ (P.cellsOf e)).bind rd = elems[i]?) →
      ∃ es vs, CellsAt w b (o + i0 * P.cellsOf e) vs ∧ DRelE w no (P.cellsOf e) es vs ∧ RdE P R e (elems.map (·.1)) es ∧ es.length = elems.length
  | [], i0, _ => ⟨[], [], fun j u h => by simp at h, by rw [DRelE.nil_iff], rfl, rfl⟩
  | x :: elems, i0, h => by
    have h0 := h 0 (by simp)
    simp only [List.getElem?_cons_zero, Nat.add_zero] at h0
    cases hc : w.cells? 0 ⟨b, o + i0 * P.cellsOf e, none⟩ (P.cellsOf e) with
    | none => rw [hc] at h0; cases h0
    | some c =>
      rw [hc] at h0
      simp only [Option.bind_some] at h0
      have hcl : c.length = P.cellsOf e := by
        unfold World.cells? at hc
        rw [if_pos (Nat.zero_le _)] at hc
        rw [mapM_length hc, List.length_range]
      have hcell : ∀ j u, c[j]? = some u → w.cell? ⟨b, o + i0 * P.cellsOf e + j, none⟩ = some u := by
        intro j u hj
        unfold World.cells? at hc
        rw [if_pos (Nat.zero_le _)] at hc
        have hjl : j < P.cellsOf e := by rw [← hcl]; exact (List.getElem?_eq_some_iff.1 hj).1
        obtain ⟨y, h1, h2⟩ := mapM_at hc j j (List.getElem?_range hjl)
        rw [hj] at h1
        obtain rfl := Option.some.inj h1
        rw [← h2, add_eq]
      obtain ⟨ds, r1, R1, one⟩ := hR c x h0 hcl
      obtain ⟨es, vs, c2, r2, R2, l2⟩ := rows_read hpos hR elems (i0 + 1) (fun i hi => by
        have := h (i + 1) (by simpa using hi)
        rw [List.getElem?_cons_succ] at this
        rw [← this, show i0 + 1 + i = i0 + (i + 1) by omega])
      have hdl := r1.length
      have key : ∃ (y : D) (v : Value), y.cells = ds ∧ y.isAgg = isRow P e ∧ v.cells.toList = c ∧ DRel w no y v := by
        cases hr : isRow P e with
        | true => exact ⟨.agg ds, .agg c.toArray, rfl, rfl, rfl, by simp only [DRel]; exact ⟨_, rfl, by simpa using r1⟩⟩
        | false =>
          obtain ⟨y, hy, ha⟩ := one hr
          subst hy
          rw [DRelL.cons_iff] at r1
          obtain ⟨v, r, rfl, r3, r4⟩ := r1
          rw [DRelL.nil_iff] at r4
          subst r4
          exact ⟨y, v, isAgg_cells ha, ha, (r3.one ha).1, r3⟩
      obtain ⟨y, v, hy, hya, hv, hyr⟩ := key
      refine ⟨y :: es, c ++ vs, ?_, ?_, ⟨y, es, rfl, by rw [hy]; exact R1, hya, R2⟩, by simp [l2]⟩
      · intro j u hj
        by_cases hjc : j < c.length
        · rw [List.getElem?_append_left hjc] at hj
          exact hcell j u hj
        · rw [List.getElem?_append_right (by omega)] at hj
          have := c2 (j - c.length) u hj
          rw [← this]
          congr 1
          rw [Addr.mk.injEq]
          refine ⟨rfl, ?_, rfl⟩
          rw [Nat.add_mul]; omega
      · rw [DRelE.cons_iff]
        exact ⟨v, vs, by rw [hv], by rw [← Array.length_toList, hv, hcl], hyr, r2⟩

/-- What is read as plain data is data. -/
theorem trod_read {enc : TypeId × Value → H} {w : World} {sp : Nat → Bool} : ∀ (n : Nat) (t : TypeId), sim P n t = true → ∀ (fuel : Nat) (cs : List Value) (x : DataW H × List MemPlace), DataW.trod enc P w 0 sp true fuel t cs = some x →
    ∃ ds, DRelL w no ds cs ∧ Rd P n t x.1 ds ∧ (isRow P t = false → ∃ y, ds = [y] ∧ y.isAgg = false)
  | 0, t, hs, _, _, _, _ => by simp [sim] at hs
  | n + 1, t, hs, fuel, cs, x, h => by
    unfold sim at hs
    unfold Rd isRow
    split at hs
    · rename_i hu
      obtain ⟨b, rfl, rfl⟩ := DataW.trod_bool hu h
      rw [hu]
      exact ⟨[.bool b], by simp [DRelL, DRel], ⟨b, rfl, rfl⟩, fun _ => ⟨_, rfl, rfl⟩⟩
    · rename_i k hu
      obtain ⟨m, rfl, rfl, hw⟩ := DataW.trod_int hu h
      rw [hu]
      exact ⟨[.int k m], by simp [DRelL, DRel], ⟨m, rfl, rfl, hw⟩, fun _ => ⟨_, rfl, rfl⟩⟩
    · rename_i hu
      obtain ⟨s, rfl, rfl, _⟩ := DataW.trod_string hu h
      rw [hu]
      exact ⟨[.str s], by simp [DRelL, DRel], ⟨s, rfl, rfl⟩, fun _ => ⟨_, rfl, rfl⟩⟩
    · rename_i e hu
      rw [Bool.and_eq_true] at hs
      have hpos : 0 < P.cellsOf e := by simpa using hs.2
      rw [hu]
      rcases DataW.trod_slice hu h with ⟨rfl, rfl⟩ | ⟨a, len, cap, elems, rest, m, rfl, rfl, rfl, _, hlc, _, hel, hat, _⟩
      · refine ⟨[.sl (P.cellsOf e) []], ?_, .inl ⟨rfl, rfl⟩, fun _ => ⟨_, rfl, rfl⟩⟩
        simp only [DRelL, DRel]
        exact ⟨_, _, rfl, ⟨none, 0, 0, rfl, rfl, Nat.le_refl _, .inl trivial⟩, rfl⟩
      · by_cases hl0 : len = 0
        · subst hl0
          have : elems = [] := List.eq_nil_of_length_eq_zero hel
          subst this
          refine ⟨[.sl (P.cellsOf e) []], ?_, .inr ⟨[], rest.map (·.1), [], rfl, rfl, rfl, rfl⟩, fun _ => ⟨_, rfl, rfl⟩⟩
          simp only [DRelL, DRel]
          exact ⟨_, _, rfl, ⟨some a, 0, cap, rfl, rfl, hlc, .inl trivial⟩, rfl⟩
        · -- the first cell tells that it is no spot
          have h0 := hat 0 (by omega)
          have hne : ∃ y, elems[0]? = some y := ⟨_, List.getElem?_eq_getElem (by omega)⟩
          obtain ⟨y0, hy0⟩ := hne
          rw [hy0, Nat.zero_mul] at h0
          have hspot : a.spot = none ∧ a.block < w.heap.size := by
            cases hc : w.cells? 0 (a.add 0) (P.cellsOf e) with
            | none => rw [hc] at h0; cases h0
            | some c =>
              unfold World.cells? at hc
              rw [if_pos (Nat.zero_le _)] at hc
              obtain ⟨y, _, h2⟩ := mapM_at hc 0 0 (List.getElem?_range hpos)
              have e0 : (a.add 0).add 0 = a := by simp [Addr.add]
              rw [e0] at h2
              unfold World.cell? at h2
              split at h2
              · rename_i hb
                split at h2
                · cases h2
                · rename_i hsp
                  refine ⟨by cases hs : a.spot with | none => rfl | some _ => rw [hs] at hsp; simp at hsp, (Array.getElem?_eq_some_iff.1 hb).1⟩
              · cases h2
          obtain ⟨ab, ao, asp⟩ := a
          obtain ⟨hsp, hlt⟩ := hspot
          simp only at hsp hlt
          subst hsp
          obtain ⟨es, vs, c1, r1, R1, l1⟩ := rows_read (R := Rd P n) (rd := DataW.trod enc P w 0 sp true m e) (b := ab) (o := ao) hpos (fun c x hx _ => trod_read n e hs.1 m c x hx) elems 0 (fun i hi => by
            have := hat i (by omega)
            rw [add_eq] at this
            rw [← this, Nat.zero_add])
          refine ⟨[.sl (P.cellsOf e) es], ?_, .inr ⟨elems.map (·.1), rest.map (·.1), es, rfl, rfl, by simp [l1], R1⟩, fun _ => ⟨_, rfl, rfl⟩⟩
          simp only [DRelL, DRel]
          rw [Nat.zero_mul, Nat.add_zero] at c1
          exact ⟨_, _, rfl, ⟨some ⟨ab, ao, none⟩, len, cap, rfl, by omega, hlc, .inr ⟨ab, ao, vs, rfl, fun h => h, hlt, c1, r1⟩⟩, rfl⟩
    · rename_i fs hu
      rw [Bool.and_eq_true] at hs
      obtain ⟨xs, m, rfl, rfl, hcl, hxl, hat⟩ := DataW.trod_struct hu h
      rw [hu]
      cases hct : contigB P fs.toList 0 with
      | none => rw [hct] at hs; simp at hs
      | some tot =>
        rw [hct] at hs
        have htot := beq_eq hs.2
        obtain ⟨e1, e2⟩ := offs_contig fs.toList 0 tot hct
        obtain ⟨ds, r1, R1⟩ := read_parts (w := w) (R := Rd P n) (rd := fun t c => DataW.trod enc P w 0 sp true m t c) cs (fs.toList.map (·.type)) (fs.toList.map (·.offset)) 0 xs (by simp)
          (fun j t hj => by
            rw [List.getElem?_map] at hj
            cases hf : fs.toList[j]? with
            | none => rw [hf] at hj; cases hj
            | some f =>
              rw [hf] at hj
              rw [List.getElem?_map, hf, Option.map_some, e2 j f hf])
          (fun j t a hj ha => by
            rw [List.getElem?_map] at hj ha
            cases hf : fs.toList[j]? with
            | none => rw [hf] at hj; cases hj
            | some f =>
              rw [hf] at hj ha
              simp only [Option.map_some, Option.some.injEq] at hj ha
              subst hj ha
              have hj' : j < xs.length := by rw [hxl, ← Array.length_toList]; exact (List.getElem?_eq_some_iff.1 hf).1
              have := hat j f (by rw [← Array.getElem?_toList]; exact hf)
              exact ⟨xs[j], List.getElem?_eq_getElem hj', by rw [this]; exact List.getElem?_eq_getElem hj'⟩)
          (by simp [hxl]) (fun t ht c x hx => by
            obtain ⟨f, hf, rfl⟩ := List.mem_map.1 ht
            obtain ⟨ds, a1, a2, _⟩ := trod_read n f.type (List.all_eq_true.1 hs.1 f hf) m c x hx
            exact ⟨ds, a1, a2⟩) (by rw [hcl]; omega)
        exact ⟨ds, by simpa using r1, ⟨xs.map (·.1), rfl, R1⟩, fun h => by cases h⟩
    · rename_i k e hu
      rw [Bool.and_eq_true] at hs
      obtain ⟨xs, m, rfl, rfl, hcl, hxl, hat⟩ := DataW.trod_array hu h
      have htot := beq_eq hs.2
      rw [hu]
      obtain ⟨ds, r1, R1⟩ := read_parts (w := w) (R := Rd P n) (rd := fun t c => DataW.trod enc P w 0 sp true m t c) cs (List.replicate k e) ((List.range k).map fun i => i * P.cellsOf e) 0 xs (by simp)
        (fun j t hj => by
          obtain ⟨hjl, _⟩ := List.getElem?_eq_some_iff.1 hj
          simp at hjl
          rw [List.getElem?_map, List.getElem?_range hjl, Option.map_some, List.take_replicate, List.map_replicate, sum_rep, Nat.min_eq_left (by omega), Nat.zero_add])
        (fun j t a hj ha => by
          obtain ⟨hjl, hje⟩ := List.getElem?_eq_some_iff.1 hj
          simp at hjl
          rw [List.getElem_replicate] at hje
          subst hje
          rw [List.getElem?_map, List.getElem?_range hjl, Option.map_some] at ha
          obtain rfl := Option.some.inj ha
          have hj' : j < xs.length := by omega
          exact ⟨xs[j], List.getElem?_eq_getElem hj', by rw [hat j hjl]; exact List.getElem?_eq_getElem hj'⟩)
        (by simp [hxl]) (fun t ht c x hx => by
          obtain rfl := (List.mem_replicate.1 ht).2
          obtain ⟨ds, a1, a2, _⟩ := trod_read n t hs.1 m c x hx
          exact ⟨ds, a1, a2⟩) (by rw [hcl, List.map_replicate, sum_rep, htot]; omega)
      exact ⟨ds, by simpa using r1, ⟨xs.map (·.1), rfl, R1⟩, fun h => by cases h⟩
    · simp at hs

/-! ### Arguments -/
theorem arg_read {enc : TypeId × Value → H} {w : World} {base n : Nat} {t : TypeId} {v : Value} {d : DataW H} {ps : List MemPlace} (hs : sim P n t = true) (hv : Value.okWide P w .any base t v) (h : DataW.Trod enc P w 0 (fun _ => true) true t v d ps) :
    ∃ y : D, DRel w no y v ∧ Rd P n t d y.cells ∧ y.isAgg = isRow P t := by
  obtain ⟨fuel, hf⟩ := h
  obtain ⟨ds, r, R, one⟩ := trod_read n t hs fuel _ _ hf
  cases hr : isRow P t with
  | true =>
    have : ∃ cs : Array Value, v = .agg cs := by
      unfold Value.okWide at hv
      unfold isRow at hr
      split at hv
      · obtain ⟨cs, rfl, _⟩ := hv; exact ⟨cs, rfl⟩
      · obtain ⟨cs, rfl, _⟩ := hv; exact ⟨cs, rfl⟩
      · rename_i h1 h2
        split at hr
        · rename_i fs hu; exact absurd hu (h1 fs)
        · rename_i m e hu; exact absurd hu (h2 m e)
        · cases hr
    obtain ⟨cs, rfl⟩ := this
    exact ⟨.agg ds, by simp only [DRel]; exact ⟨cs, rfl, r⟩, R, rfl⟩
  | false =>
    obtain ⟨y, rfl, ha⟩ := one hr
    rw [DRelL.cons_iff] at r
    obtain ⟨c, q, hc, r1, r2⟩ := r
    rw [DRelL.nil_iff] at r2
    subst r2
    have hvc : v = c := by
      have hn : ∀ cs : Array Value, v ≠ .agg cs := by
        rintro cs rfl
        cases n with
        | zero => simp [sim] at hs
        | succ n =>
          unfold sim at hs
          unfold Value.okWide at hv
          unfold isRow at hr
          split at hs
          · rename_i hu; rw [hu] at hv; simp [Cell.okWide, Cell.ok, hu] at hv
          · rename_i k hu; rw [hu] at hv; simp [Cell.okWide, Cell.ok, hu] at hv
          · rename_i hu; rw [hu] at hv; simp [Cell.okWide, Cell.ok, hu] at hv
          · rename_i e hu; rw [hu] at hv; simp [Cell.okWide, Cell.ok, hu] at hv
          · rename_i fs hu; rw [hu] at hr; cases hr
          · rename_i m e hu; rw [hu] at hr; cases hr
          · cases hs
      have : v.cells.toList = [v] := by
        cases v <;> first | rfl | (exact absurd rfl (hn _))
      rw [this] at hc
      cases hc
      rfl
    subst hvc
    exact ⟨y, r1, by rw [isAgg_cells ha]; exact R, ha⟩

/-- The arguments, one by one. -/
def RdA (P : Program) (n : Nat) : List TypeId → List (DataW H) → List D → Prop
  | [], [], ys => ys = []
  | t :: ts, d :: ds, ys => ∃ y r, ys = y :: r ∧ Rd P n t d y.cells ∧ y.isAgg = isRow P t ∧ RdA P n ts ds r
  | _, _, _ => False

theorem rda_cons {n : Nat} {t : TypeId} {ts : List TypeId} {ds : List (DataW H)} {ys : List D} (h : RdA P n (t :: ts) ds ys) : ∃ d ds' y r, ds = d :: ds' ∧ ys = y :: r ∧ Rd P n t d y.cells ∧ y.isAgg = isRow P t ∧ RdA P n ts ds' r := by
  cases ds with
  | nil => simp [RdA] at h
  | cons d ds =>
    simp only [RdA] at h
    obtain ⟨y, r, h1, h2, h3, h4⟩ := h
    exact ⟨d, ds, y, r, rfl, h1, h2, h3, h4⟩
theorem rda_nil {n : Nat} {ds : List (DataW H)} {ys : List D} (h : RdA P n [] ds ys) : ds = [] ∧ ys = [] := by
  cases ds with
  | nil => exact ⟨rfl, by simpa [RdA] using h⟩
  | cons d ds => simp [RdA] at h

theorem args_read {enc : TypeId × Value → H} {w : World} {base n : Nat} : ∀ (ts : List TypeId) (vs : List Value) (ds : List (DataW H)) (ps : List MemPlace), (∀ (j : Nat) t v, ts[j]? = some t → vs[j]? = some v → Value.okWide P w .any base t v) →
    (∀ t ∈ ts, sim P n t = true) → DataW.TrodAll enc P w 0 (fun _ => true) true ts vs ds ps → ∃ ys, DRelL w no ys vs ∧ RdA P n ts ds ys
  | [], vs, ds, ps, _, _, h => by
    obtain ⟨rfl, rfl, rfl⟩ := ChangeShapes.trodAll_nil h
    exact ⟨[], by rw [DRelL.nil_iff], rfl⟩
  | t :: ts, vs, ds, ps, hv, hs, h => by
    obtain ⟨v, vs', d, ds', p, q, rfl, rfl, rfl, h1, h2⟩ := ChangeShapes.trodAll_cons h
    obtain ⟨y, r1, R1, a1⟩ := arg_read (hs t (by simp)) (hv 0 t v rfl rfl) h1
    obtain ⟨ys, r2, R2⟩ := args_read ts vs' ds' q (fun j t' v' hj hj' => hv (j + 1) t' v' (by simpa using hj) (by simpa using hj')) (fun t' ht' => hs t' (by simp [ht'])) h2
    exact ⟨y :: ys, by rw [DRelL.cons_iff]; exact ⟨v, vs', rfl, r1, r2⟩, y, ys, rfl, R1, a1, R2⟩

theorem trodAll_stays {enc : TypeId × Value → H} (hl : laidOutB P = true) {W W' : World} (hb : Go.RowKit.Below W.heap.size W W') : ∀ (ts : List TypeId) (vs : List Value) (ds : List (DataW H)) (ps : List MemPlace), (∀ t ∈ ts, P.readableRec t = true ∧ t < P.types.size) →
    DataW.TrodAll enc P W 0 (fun _ => true) true ts vs ds ps → (∀ x ∈ ps, x.block < W.heap.size) → DataW.TrodAll enc P W' 0 (fun b => decide (b < W.heap.size)) true ts vs ds ps
  | [], vs, ds, ps, _, h, _ => by
    obtain ⟨rfl, rfl, rfl⟩ := ChangeShapes.trodAll_nil h
    rfl
  | t :: ts, vs, ds, ps, ht, h, hlt => by
    obtain ⟨v, vs', d, ds', p, q, rfl, rfl, rfl, h1, h2⟩ := ChangeShapes.trodAll_cons h
    exact ⟨p, q, hb.trod hl (ht t (by simp)).1 (ht t (by simp)).2 h1 (fun x hx => hlt x (by simp [hx])), trodAll_stays hl hb ts vs' ds' q (fun t' ht' => ht t' (by simp [ht'])) h2 (fun x hx => hlt x (by simp [hx])), rfl⟩

theorem trodAll_len {enc : TypeId × Value → H} {w : World} {b : Nat} {sp : Nat → Bool} {hd : Bool} : ∀ (ts : List TypeId) (vs : List Value) (ds : List (DataW H)) (ps : List MemPlace), DataW.TrodAll enc P w b sp hd ts vs ds ps → ds.length = ts.length
  | [], vs, ds, ps, h => by obtain ⟨rfl, rfl, rfl⟩ := ChangeShapes.trodAll_nil h; rfl
  | t :: ts, vs, ds, ps, h => by
    obtain ⟨v, vs', d, ds', p, q, rfl, rfl, rfl, h1, h2⟩ := ChangeShapes.trodAll_cons h
    simp [trodAll_len ts vs' ds' q h2]

/-- A law by its contract: called with whatever reads as plain data it answers true, and the arguments read as they did. -/
theorem law_calls {enc : TypeId × Value → H} {f : FuncId} {fn : Func} {s : ChangeSpec} {n : Nat} {tb : TypeId} (hl : laidOutB P = true) (hts : ∀ t ∈ fn.params.toList, P.readableRec t = true ∧ t < P.types.size)
    (hsim : ∀ t ∈ fn.params.toList, sim P n t = true) (hres : fn.resultTypes = #[tb]) (htb : P.underlying tb = some .bool) (hvars : s.vars = [])
    (hfn : ∀ ds : List (DataW H), ds.length = fn.params.toList.length → (s.fn H (ds ++ [])).results = [.lit (.bool true)] ∧ (s.fn H (ds ++ [])).args = ds ∧ (s.fn H (ds ++ [])).vars = [])
    {W : World} {base : Nat} {args : Array Value} {ds gs : List (DataW H)} {before : List MemPlace} (hval : ∀ (j : Nat) t v, fn.params[j]? = some t → args[j]? = some v → Value.okWide P W .any base t v)
    (hW : DataW.Whole enc P fn.params.toList s.vars false W args.toList ds gs before)
    (c : ∀ ys : List D, RdA P n fn.params.toList ds ys → FnOk P f (ys.map V.d) [] (.ret (.d (.bool true))) []) :
    Calls P f args W fun e W' => ∃ v, e = .returned v ∧ s.post enc P fn false true false false W args v W' := by
  have hW0 := hW
  obtain ⟨p, q, hA, hV, rfl, hfz, hnd⟩ := hW
  rw [hvars] at hV
  have hgs : gs = [] ∧ q = [] := by
    cases gs with
    | nil => exact ⟨rfl, by simpa [DataW.TrodVars] using hV⟩
    | cons g gs => simp [DataW.TrodVars] at hV
  obtain ⟨rfl, rfl⟩ := hgs
  obtain ⟨ys, r, R⟩ := args_read fn.params.toList args.toList ds p (fun j t v h1 h2 => hval j t v (by rw [← Array.getElem?_toList]; exact h1) (by rw [← Array.getElem?_toList]; exact h2)) hsim hA
  have hnm : ∀ b, ¬ Mine (fun _ => none : Ren) (lk []) b := fun b ⟨id, q, h, _⟩ => by simp [lk, live] at h
  have t := (c ys R).2 W no (fun _ => none) args (fun _ h => h.elim) (fun _ h => h.elim)
    (VRelL.of_data (DRelL.keep ⟨Nat.le_refl _, fun _ _ _ => rfl, fun b _ h => by rcases h with h | h; exact h; exact hnm b h⟩ _ _ r))
    ⟨fun id k h => by simp [lk] at h, fun id id' q q' h => by simp [lk, live] at h, fun id q h => by simp [lk, live] at h⟩
  refine t.mono ?_
  rintro e W' ⟨ρ', ho, hb⟩
  cases e with
  | returned v =>
    simp only [OutRel, VRel, DRel] at ho
    subst ho
    have hB : Go.RowKit.Below W.heap.size W W' := ⟨hb.os, hb.tape, hb.output, hb.size, fun k hk => hb.frame k hk (hnm k)⟩
    obtain ⟨f1, f2, f3⟩ := hfn ds (trodAll_len _ _ _ _ hA)
    refine ⟨_, rfl, ds, [], p ++ [], [], p, [], hW0, ?_, ?_, ?_, hB.frame _, fun h => by cases h⟩
    · rw [hres]
      have : ((ChangeSpec.fn s H (ds ++ [])).results) = [.lit (.bool true)] := f1
      rw [this]
      exact ⟨[], [], ⟨1, by simp [DataW.trod, Value.cells, htb]⟩, rfl, rfl⟩
    · have : ((ChangeSpec.fn s H (ds ++ [])).args) = ds := f2
      rw [this]
      exact trodAll_stays hl hB _ _ _ _ hts hA (fun x hx => by have := hW0.lt x (by simp [hx]); exact this)
    · have : ((ChangeSpec.fn s H (ds ++ [])).vars) = [] := f3
      rw [this, hvars]
      rfl
  | _ => exact ho.elim

end Go.Own
