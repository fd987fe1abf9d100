/-
The store; slices that are made: literals, make, append, copy.
-/
import Derived.Test.YtlaohcpkecmhnaaOwnOps6

set_option linter.all false

namespace Go.Own
open Go (Value IntKind BinOp UnOp TypeId)

variable {P : Program}

theorem allD_length : ∀ {xs : List V} {ds : List D}, allD xs = some ds → ds.length = xs.length
  | [], ds, h => by simp only [allD, Option.some.injEq] at h; subst h; rfl
  | x :: xs, ds, h => by
    cases x <;> simp only [allD] at h <;> try (simp at h; done)
    split at h
    · rename_i ys hy
      simp only [Option.some.injEq] at h
      subst h
      simp [allD_length hy]
    · simp at h

theorem Steps.store {op : Oper} {ty : TypeId} {x v : Operand} (ho : op.op = .store ty x v) {hint : Option D} {t : Nat → V} {h : Hp} {id : Nat} {blk : Blk} {p : List Prop}
    (ha : aStore P h hint ty (evalV t x) (evalV t v) = some (id, blk, p)) (hp : AllP p) : Steps P op t h .undef (upd h id (some blk)) := by
  intro E ρ a w r
  have hx := r.eval x
  have hv := r.eval v
  unfold aStore at ha
  split at ha
  · simp at ha
  rename_i i hi
  split at ha
  · simp at ha
  rename_i cs hcs
  split at ha
  case h_2 => simp at ha
  rename_i hlen hone
  have hlen := beq_eq hlen
  have hvc := hv.cells hcs
  have hvl := hvc.length
  have hvs : (a.eval v).cells.size = i.size := by simp only [Array.length_toList] at hvl; omega
  have h1 := hvc.allOne hone
  have fin : ∀ (q : Pl) (cells : Array Value) (elem : TypeId) (o : Nat) (blk0 : Blk), h id = some blk0 → live (some blk0) = true → live (some blk) = true → ρ id = some q → a.eval x = .pointer (some ⟨q.b, o, none⟩) →
      w.heap[q.b]? = some (.cells cells elem (0, 0)) → o + i.size ≤ cells.size → BlkLe (some blk0) (some blk) →
      (∀ (w' : World) (N' : Nat → Prop), KeepV w w' (E.NN ρ h) N' ρ ρ h (upd h id (some blk)) → w'.heap[q.b]? = some (.cells (splice cells.toList o (a.eval v).cells.toList).toArray elem (0, 0)) → BlkRel w' N' ρ (upd h id (some blk)) (some q) blk) →
      ∃ n w' ρ', (execOp a.eval op).run P w = .ok n w' ∧ RelAt E ρ' t (upd h id (some blk)) a w' ∧
        ((∃ u, n = .value u ∧ VRel w' (E.NN ρ' (upd h id (some blk))) ρ' (upd h id (some blk)) .undef u) ∨ (n = .skip ∧ V.undef = .undef)) := by
    intro q cells elem o blk0 hid hl0 hl1 hq hxv hb hfit hle hrel
    refine ⟨.skip, w.setRow q.b (splice cells.toList o (a.eval v).cells.toList).toArray, ρ, ?_, r.write hid hl0 hl1 hq hb hle hrel, .inr ⟨rfl, rfl⟩⟩
    have := run_storeAt (P := P) hi hvs h1 hb hfit
    unfold execOp
    simp [ho, hxv, this]
  split at ha
  · rename_i id' j c e
    rw [e] at hx
    simp only [VRel] at hx
    split at ha
    · rename_i bs hk
      split at ha
      · rename_i hfit
        simp only [Option.some.injEq, Prod.mk.injEq] at ha
        obtain ⟨rfl, rfl, rfl⟩ := ha
        rw [hk] at hx
        simp only [PtrRel] at hx
        obtain ⟨q, hq, hxv⟩ := hx
        have hblk := r.heap id' _ hk
        rw [hq] at hblk
        obtain ⟨q', cells, elem, hq', hb, hsz, ho', hl⟩ := hblk
        obtain rfl := Option.some.inj hq'
        have hfit := Nat.le_of_ble_eq_true hfit
        rw [addN_eq] at hfit
        have hbl := hl.length
        simp only [Array.length_toList] at hbl
        have hvl' : (a.eval v).cells.toList.length = i.size := by simpa using hvs
        refine fin q cells elem (addN j c) _ hk rfl rfl hq (by rw [addN_eq]; exact hxv) hb (by rw [addN_eq]; omega) (by simp [BlkLe]) (fun w' N' k hb' => ?_)
        refine ⟨q, _, elem, rfl, hb', ?_, ho', ?_⟩
        · rw [List.size_toArray, splice_length (by rw [addN_eq]; simp only [Array.length_toList]; omega)]
          simpa using hsz
        · have h1 := VRelL.keep k _ _ hl
          have h2 := VRelL.keep k _ _ hvc
          simpa [splice] using h1.splice h2
      · simp at ha
    · rename_i sz es hk
      split at ha
      · rename_i y ds ev hds
        split at ha
        · rename_i es' p' hs
          simp only [Option.some.injEq, Prod.mk.injEq] at ha
          obtain ⟨rfl, rfl, rfl⟩ := ha
          rw [hk] at hx
          simp only [PtrRel] at hx
          obtain ⟨q, hq, hxv⟩ := hx
          have hblk := r.heap id' _ hk
          rw [hq] at hblk
          rcases hblk with ⟨hbad, _⟩ | ⟨q', cells, elem, pre, vs, post, hq', hb, hsz, hcells, hpre, hrow⟩
          · cases hbad
          obtain rfl := Option.some.inj hq'
          obtain ⟨hlen', hsound⟩ := storeRow_sound (n := i.size) (by rw [allD_length hds]; exact hlen) hs hp
          rw [ev] at hv
          simp only [VRel] at hv
          have hdl := hvc.allD hds
          obtain ⟨hfit, _⟩ := hsound w w _ _ (a.eval v) pre vs post ⟨Nat.le_refl _, fun _ _ _ => rfl, fun _ _ h => h⟩ hv hdl hvs hrow
          rw [hpre, ← hcells, Array.length_toList] at hfit
          refine fin q cells elem (q.o + j * sz + c) _ hk rfl rfl hq hxv hb hfit (by simp [BlkLe, hlen']) (fun w' N' k hb' => ?_)
          obtain ⟨_, vs', hsp, hrow'⟩ := hsound w w' _ N' (a.eval v) pre vs post k.data hv hdl hvs hrow
          rw [← hpre, hcells, hsp] at hb'
          refine .inr ⟨q, _, elem, pre, vs', post, rfl, hb', ?_, by simp, hpre, hrow'⟩
          have e1 := hrow.length
          have e2 := hrow'.length
          have e3 := congrArg List.length hcells
          simp only [Array.length_toList, List.length_append] at e3
          simp only [List.size_toArray, List.length_append]
          rw [hlen'] at e2
          omega
        · simp at ha
      · simp at ha
    · simp at ha
  · simp at ha

/-! ### A new row -/
theorem RelAt.newRow {E : Env} {ρ : Ren} {t : Nat → V} {h : Hp} {a : Act} {w w' : World} (r : RelAt E ρ t h a w) {id : Nat} (hid : h id = none) (ty : TypeId) {sz : Nat} {es : List D} {X : Array Value} {vs post : List Value}
    (hw : w'.heap = w.heap.push (.cells X ty)) (hos : w'.os = w.os) (ht : w'.tape = w.tape) (ho : w'.output = w.output) (hX : X.toList = vs ++ post) (hr : DRelE w (E.NN ρ h) sz es vs) (hd : w.drawn ≤ w'.drawn := by first | exact Nat.le_refl _ | exact Nat.le_succ _ | exact Nat.le_add_right _ _) :
    RelAt E (upd ρ id (some ⟨w.heap.size, 0, X.size⟩)) t (upd h id (some (.row sz es))) a w' :=
  (r.new hid (.cells X ty) X.size (.row sz es) hw hos ht ho (fun k hb => .inr ⟨_, X, ty, [], vs, post, rfl, hb, rfl, by simpa using hX, rfl, DRelE.keep k.data _ _ _ hr⟩) hd).1

theorem rowRef {w : World} {N : Nat → Prop} {ρ : Ren} {h : Hp} {id b n sz c : Nat} {es : List D} {cap : Option Nat} (hc : es.length ≤ c) (hcap : ∀ k, cap = some k → c = k) (hfit : c * sz ≤ n) :
    VRel w N (upd ρ id (some ⟨b, 0, n⟩)) (upd h id (some (.row sz es))) (.ref id 0 none cap) (.slice (some ⟨b, 0, none⟩) es.length c) := by
  simp only [VRel, upd_same, RefRel, Option.getD_none, Nat.sub_zero, Nat.zero_add]
  exact ⟨Nat.le_refl _, some ⟨b, 0, none⟩, c, rfl, hc, hcap, by simp, by simpa using hfit⟩

/-! ### Literals of slices -/
/-- Data, or what is as good: a nil slice. -/
def simpleD : V → Option D
  | .d x => some x
  | .nils => some (.sl 0 [])
  | _ => none

theorem VRel.simpleD {w : World} {N : Nat → Prop} {ρ : Ren} {h : Hp} {x : V} {d : D} {v : Value} (hs : Own.simpleD x = some d) (r : VRel w N ρ h x v) : DRel w N d v := by
  cases x <;> simp only [Own.simpleD, Option.some.injEq, reduceCtorEq] at hs
  · subst hs; simpa only [VRel] using r
  · subst hs
    simp only [VRel] at r
    obtain ⟨a, rfl⟩ := r
    simp only [DRel]
    exact ⟨a, 0, 0, rfl, rfl, Nat.le_refl _, .inl trivial⟩

def cellD : Value → Option D
  | .bool b => some (.bool b)
  | .int k n => some (.int k n)
  | .string s => some (.str s)
  | .pointer none => some .nilp
  | .slice none 0 0 => some (.sl 0 [])
  | .map none => some .nilmap
  | .nilFunc => some .nilfn
  | .nilIface => some .nilif
  | _ => none

def cellsD : List Value → Option (List D)
  | [] => some []
  | v :: r => match cellD v with
    | some d => match cellsD r with
      | some ds => some (d :: ds)
      | none => none
    | none => none

def constD : Value → Option D
  | .agg cs => match cellsD cs.toList with
    | some ds => some (.agg ds)
    | none => none
  | v => cellD v

theorem cellD_rel {v : Value} {d : D} (h : cellD v = some d) (w : World) (N : Nat → Prop) : DRel w N d v := by
  unfold cellD at h
  split at h <;> simp only [Option.some.injEq, reduceCtorEq] at h <;> subst h <;> simp only [DRel]
  exact ⟨none, 0, 0, rfl, rfl, Nat.le_refl _, .inl trivial⟩

theorem cellsD_rel : ∀ {vs : List Value} {ds : List D}, cellsD vs = some ds → ∀ (w : World) (N : Nat → Prop), DRelL w N ds vs
  | [], ds, h, w, N => by simp only [cellsD, Option.some.injEq] at h; subst h; simp [DRelL]
  | v :: r, ds, h, w, N => by
    simp only [cellsD] at h
    split at h
    · rename_i d hd
      split at h
      · rename_i ds' hds
        simp only [Option.some.injEq] at h
        subst h
        rw [DRelL.cons_iff]
        exact ⟨v, r, rfl, cellD_rel hd w N, cellsD_rel hds w N⟩
      · simp at h
    · simp at h

theorem constD_rel {v : Value} {d : D} (h : constD v = some d) (w : World) (N : Nat → Prop) : DRel w N d v := by
  unfold constD at h
  split at h
  · rename_i cs
    split at h
    · rename_i ds hds
      simp only [Option.some.injEq] at h
      subst h
      simp only [DRel]
      exact ⟨cs, rfl, cellsD_rel hds w N⟩
    · simp at h
  · exact cellD_rel h w N

def fillD (size : Nat) : List D → List (Nat × V) → Option (List D)
  | es, [] => some es
  | es, (i, x) :: rest => match simpleD x with
    | none => none
    | some d => match Nat.blt i es.length, Nat.beq d.cells.length size with
      | true, true => fillD size (es.set i d) rest
      | _, _ => none

theorem run_fillD {w : World} {N : Nat → Prop} {ρ : Ren} {h : Hp} {sz : Nat} : ∀ (parts : List (Nat × V)) (vparts : List (Nat × Value)) (es : List D) (X : Array Value) (out : List D),
    fillD sz es parts = some out → DRelE w N sz es X.toList → vparts.map (·.1) = parts.map (·.1) → (∀ (k : Nat) (x : Nat × V) (v : Nat × Value), parts[k]? = some x → vparts[k]? = some v → VRel w N ρ h x.2 v.2) →
    out.length = es.length ∧ ∃ Y, Instr.fill (fun i => some (i * sz, sz)) X vparts = some Y ∧ DRelE w N sz out Y.toList
  | [], vparts, es, X, out, hf, hX, hk, _ => by
    simp only [fillD, Option.some.injEq] at hf
    subst hf
    have : vparts = [] := by simpa using hk
    subst this
    exact ⟨rfl, X, rfl, hX⟩
  | (i, x) :: parts, [], _, _, _, _, _, hk, _ => by simp at hk
  | (i, x) :: parts, (i', v) :: vparts, es, X, out, hf, hX, hk, hr => by
    simp only [List.map_cons, List.cons.injEq] at hk
    obtain ⟨rfl, hk⟩ := hk
    simp only [fillD] at hf
    split at hf
    · simp at hf
    rename_i d hd
    split at hf
    · rename_i hb1 hb2
      have hb1 : i' < es.length := by simpa using hb1
      have hb2 := beq_eq hb2
      have hv : DRel w N d v := (hr 0 _ _ rfl rfl).simpleD hd
      have hvl := hv.cells.length
      simp only [Array.length_toList] at hvl
      have hXl := hX.length
      simp only [Array.length_toList] at hXl
      obtain ⟨u, hu, hud, p1, p2, hXe, hp1, hr1, hr2⟩ := hX.get i' _ (List.getElem?_eq_getElem hb1)
      have hmul : (i' + 1) * sz ≤ es.length * sz := Nat.mul_le_mul_right _ (by omega)
      rw [Nat.add_mul, Nat.one_mul] at hmul
      have hset := foldl_set v.cells.toList (i' * sz) 0 X (by simp; omega)
      simp only [Nat.add_zero] at hset
      have hnew : DRelE w N sz (es.set i' d) (v.cells.zipIdx.foldl (fun cs (c, j) => cs.setIfInBounds (i' * sz + j) c) X).toList := by
        rw [← Array.foldl_toList, Array.toList_zipIdx, hset]
        have e : X.toList.take (i' * sz) ++ v.cells.toList ++ X.toList.drop (i' * sz + v.cells.toList.length) = p1 ++ v.cells.toList ++ p2 := by
          have := splice_mid p1 u.cells.toList p2 v.cells.toList (by simp; omega)
          rw [← hXe, hp1] at this
          exact this
        rw [e]
        exact DRelE.set hr1 (by omega) hv hr2 hb1
      obtain ⟨hl, Y, hY, hout⟩ := run_fillD parts vparts _ (v.cells.zipIdx.foldl (fun cs (c, j) => cs.setIfInBounds (i' * sz + j) c) X) out hf hnew hk (fun k x v hx hv => hr (k + 1) x v hx hv)
      refine ⟨by rw [hl, List.length_set], Y, ?_, hout⟩
      simp only [Instr.fill]
      rw [if_neg (by simp; omega)]
      exact hY
    · simp at hf

theorem zeros_cells (z : Value) (w : World) (N : Nat → Prop) {d : D} (hd : DRel w N d z) (hz : 0 < z.cells.size) : ∀ n, DRelE w N z.cells.size (List.replicate n d) ((Array.range (n * z.cells.size)).map (fun k => z.cells[k % z.cells.size]!)).toList := by
  intro n
  induction n with
  | zero => simp [DRelE]
  | succ n ih =>
    rw [List.replicate_succ', Nat.add_mul, Nat.one_mul]
    have e : ((Array.range (n * z.cells.size + z.cells.size)).map (fun k => z.cells[k % z.cells.size]!)).toList = ((Array.range (n * z.cells.size)).map (fun k => z.cells[k % z.cells.size]!)).toList ++ z.cells.toList := by
      simp only [Array.toList_map, Array.toList_range]
      rw [List.range_add, List.map_append]
      congr 1
      rw [List.map_map]
      apply List.ext_getElem
      · simp
      · intro k h1 h2
        simp at h1 h2
        simp [Nat.mul_add_mod_self_right, Nat.mod_eq_of_lt h1, h1, Nat.add_comm (n * z.cells.size) k]
    rw [e]
    refine ih.append ?_
    rw [DRelE.cons_iff]
    exact ⟨z, [], by simp, rfl, hd, by simp [DRelE]⟩

def aBuildSlice (P : Program) (t : TypeId) (len : Nat) (parts : List (Nat × V)) : Option (Nat × List D) :=
  match P.underlying t with
  | some (.slice e) => match P.info? e with
    | none => none
    | some i => match i.zero with
      | none => none
      | some z => match constD z, Nat.beq z.cells.size i.size, Nat.blt 0 i.size, Nat.ble (len * i.size) 16777216 with
        | some d, true, true, true => match fillD i.size (List.replicate len d) parts with
          | some es => some (i.size, es)
          | none => none
        | _, _, _, _ => none
  | _ => none

theorem Steps.buildSlice {op : Oper} {ty : TypeId} {len : Nat} {parts : Array (Nat × Operand)} (ho : op.op = .buildSlice ty len parts) {t : Nat → V} {h : Hp} {id : Nat} {sz : Nat} {es : List D}
    (ha : aBuildSlice P ty len (parts.toList.map fun p => (p.1, evalV t p.2)) = some (sz, es)) (hid : h id = none) : Steps P op t h (.ref id 0 none (some len)) (upd h id (some (.row sz es))) := by
  intro E ρ a w r
  unfold aBuildSlice at ha
  split at ha
  case h_2 => simp at ha
  rename_i e hu
  split at ha
  · simp at ha
  rename_i i hi
  split at ha
  · simp at ha
  rename_i z hz
  split at ha
  case h_2 => simp at ha
  rename_i d hd hzs hpos hbig
  have hzs := beq_eq hzs
  have hpos : 0 < i.size := by simpa using hpos
  have hbig : len * i.size ≤ 16777216 := Nat.le_of_ble_eq_true hbig
  split at ha
  case h_2 => simp at ha
  rename_i es' hf
  simp only [Option.some.injEq, Prod.mk.injEq] at ha
  obtain ⟨rfl, rfl⟩ := ha
  have hzero : (zeroValue e).run P w = .ok z w := by simp [zeroValue, typeInfo, hi, hz]
  have hs : (sizeOf e).run P w = .ok i.size w := by simp [sizeOf, typeInfo, hi]
  have zs := zeros_cells z w (E.NN ρ h) (constD_rel hd w (E.NN ρ h)) (by omega) len
  rw [hzs] at zs
  obtain ⟨hlen, Y, hY, hrel⟩ := run_fillD (ρ := ρ) (h := h) _ (parts.map fun p => (p.1, a.eval p.2)).toList _ _ _ hf zs (by simp) (by
    intro k x v hx hv
    simp only [List.getElem?_map, Array.toList_map, Option.map_eq_some_iff] at hx hv
    obtain ⟨p, hp, rfl⟩ := hx
    obtain ⟨p', hp', rfl⟩ := hv
    rw [hp] at hp'
    obtain rfl := Option.some.inj hp'
    exact r.eval p.2)
  rw [List.length_replicate] at hlen
  have hYl := hrel.length
  simp only [Array.length_toList] at hYl
  refine ⟨.value (.slice (some ⟨w.heap.size, 0, none⟩) len len), w.alloc (.cells Y e), _, ?_, r.newRow (X := Y) (post := []) hid e rfl rfl rfl rfl (by simp) hrel, .inl ⟨_, rfl, ?_⟩⟩
  · have hY' : ∀ Z : Array Value, (len * i.size ≠ 0 → Z = z.cells) → Instr.fill (fun i_1 => some (i_1 * i.size, i.size)) (Array.map (fun x => Z[x % Z.size]!) (Array.range (len * i.size))) (parts.map fun p => (p.1, a.eval p.2)).toList = some Y := by
      intro Z hZ
      by_cases h0 : len * i.size = 0
      · rw [← hY]
        congr 1
        rw [h0]
        simp
      · rw [hZ h0, hzs]
        exact hY
    unfold execOp
    simp only [ho, Instr.buildSlice, Sem.run_bind, run_underlying hu, Result.andThen_ok, hs]
    rw [if_neg (by omega)]
    by_cases h0 : len * i.size = 0
    · rw [if_pos h0]
      simp only [Sem.run_bind, Sem.run_pure, Result.andThen_ok]
      rw [hY' #[] (fun h => absurd h0 h)]
      simp [Go.newRow]
    · rw [if_neg h0]
      simp only [Sem.run_bind, Sem.run_pure, Result.andThen_ok, hzero]
      rw [hY' z.cells (fun _ => rfl)]
      simp [Go.newRow]
  · have := rowRef (w := w.alloc (.cells Y e)) (N := E.NN (upd ρ id (some ⟨w.heap.size, 0, Y.size⟩)) (upd h id (some (.row i.size es')))) (ρ := ρ) (h := h) (id := id) (b := w.heap.size) (n := Y.size) (sz := i.size) (c := len) (es := es') (cap := some len) (by omega) (fun k hk => by cases hk; rfl) (by rw [hYl, hlen]; exact Nat.le_refl _)
    rw [hlen] at this
    exact this

end Go.Own
