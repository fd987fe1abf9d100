/-
append.
-/
import Derived.Test.YtlaohcpkecmhnaaOwnOps8
import Derived.Deep.Upon

set_option linter.all false

namespace Go.Own
open Go (Value IntKind BinOp UnOp TypeId)

variable {P : Program}

def subR (es : List D) : Nat → Option Nat → List D
  | 0, none => es
  | o + 1, none => es.drop (o + 1)
  | 0, some n => es.take n
  | o + 1, some n => (es.drop (o + 1)).take n

theorem subR_eq (es : List D) (off : Nat) (len : Option Nat) : subR es off len = (es.drop off).take (len.getD (es.length - off)) := by
  cases off <;> cases len <;> simp [subR]
  rw [List.take_of_length_le (by simp)]

/-- Each element is made of single cells. -/
def PlainE (es : List D) : Prop := ∀ e ∈ es, D.plainL e.cells = true

def bytesD (s : ByteArray) : List D := s.data.toList.map fun b => .int .u8 b.toNat

def aElems (h : Hp) (sz : Nat) (str : Bool) (x : V) : Option (List D) :=
  match str with
  | true => match x with
    | .d (.str s) => match Nat.beq sz 1 with
      | true => some (bytesD s)
      | false => none
    | _ => none
  | false => match x with
    | .nils => some []
    | .d (.sl sz' es) => match Nat.beq sz' sz with
      | true => some es
      | false => match es with
        | [] => some []
        | _ => none
    | .ref id off len _ => match h id with
      | some (.row sz' es) => match Nat.beq sz' sz with
        | true => some (subR es off len)
        | false => none
      | _ => none
    | _ => none

theorem one_of_plain {w : World} {N : Nat → Prop} : ∀ {ds : List D} {vs : List Value}, D.plainL ds = true → DRelL w N ds vs → ∀ u ∈ vs, u.oneCell' = true
  | [], _, _, h => by rw [DRelL.nil_iff] at h; subst h; simp
  | d :: ds, _, hp, h => by
    rw [DRelL.cons_iff] at h
    obtain ⟨v, r, rfl, h1, h2⟩ := h
    simp only [D.plainL, Bool.and_eq_true, Bool.not_eq_true'] at hp
    intro u hu
    rcases List.mem_cons.1 hu with rfl | hu
    · exact (h1.one hp.1).2
    · exact one_of_plain hp.2 h2 u hu

theorem one_of_plainE {w : World} {N : Nat → Prop} {sz : Nat} : ∀ {ds : List D} {vs : List Value}, PlainE ds → DRelE w N sz ds vs → ∀ u ∈ vs, u.oneCell' = true
  | [], _, _, h => by rw [DRelE.nil_iff] at h; subst h; simp
  | d :: ds, _, hp, h => by
    rw [DRelE.cons_iff] at h
    obtain ⟨v, r, rfl, _, h1, h2⟩ := h
    intro u hu
    rcases List.mem_append.1 hu with hu | hu
    · exact one_of_plain (hp d (by simp)) h1.cells u hu
    · exact one_of_plainE (fun e he => hp e (by simp [he])) h2 u hu

/-- A reference to a row: the cells of the slice. -/
theorem ref_cells {E : Env} {ρ : Ren} {t : Nat → V} {h : Hp} {a : Act} {w : World} (r : RelAt E ρ t h a w) {id off sz : Nat} {len cap : Option Nat} {es : List D} {v : Value} (hk : h id = some (.row sz es)) (hv : RefRel (ρ id) (some (.row sz es)) off len cap v) :
    off + (len.getD (es.length - off)) ≤ es.length ∧ (subR es off len).length = len.getD (es.length - off) ∧
    ((ρ id = none ∧ (∃ a, v = .slice a 0 0) ∧ es = [] ∧ len.getD (es.length - off) = 0) ∨
     ∃ q ad c vs, ρ id = some q ∧ v = .slice ad (subR es off len).length c ∧ (subR es off len).length ≤ c ∧ (∀ k, cap = some k → c = k) ∧ (c = 0 ∨ ad = some ⟨q.b, q.o + off * sz, none⟩) ∧ q.o + (off + c) * sz ≤ q.n ∧
       CellsAt w q.b (q.o + off * sz) vs ∧ DRelE w (E.NN ρ h) sz (subR es off len) vs) := by
  simp only [RefRel] at hv
  obtain ⟨hle, hv⟩ := hv
  have hlen : (subR es off len).length = len.getD (es.length - off) := by
    rw [subR_eq, List.length_take, List.length_drop]; omega
  refine ⟨hle, hlen, ?_⟩
  cases hq : ρ id with
  | none =>
    rw [hq] at hv
    have hb := r.heap id _ hk
    rw [hq] at hb
    rcases hb with ⟨_, he⟩ | ⟨q, _, _, _, _, _, hbad, _⟩
    · exact .inl ⟨rfl, hv.1, he, hv.2.1⟩
    · cases hbad
  | some q =>
    rw [hq] at hv
    obtain ⟨ad, c, rfl, h1, h2, h3, h4⟩ := hv
    have hb := r.heap id _ hk
    rw [hq] at hb
    obtain ⟨vs, hc, he⟩ := hb.rowAt
    refine .inr ⟨q, ad, c, (vs.drop (off * sz)).take (len.getD (es.length - off) * sz), rfl, by rw [hlen], by rw [hlen]; exact h1, h2, h3, h4, hc.dropTake _ _, ?_⟩
    rw [subR_eq]
    exact (he.drop off).take _

theorem elems_src {E : Env} {ρ : Ren} {t : Nat → V} {h : Hp} {a : Act} {w : World} (r : RelAt E ρ t h a w) {sz : Nat} {str : Bool} {tx : TypeId} (hstr : str = true → P.underlying tx = some .string) (hsl : str = false → ∃ e, P.underlying tx = some (.slice e))
    {x : V} {v : Value} {es : List D} (hx : VRel w (E.NN ρ h) ρ h x v) (ha : aElems h sz str x = some es) (hpl : PlainE es) : ∃ news, Src P sz tx v es.length news w ∧ DRelE w (E.NN ρ h) sz es news := by
  unfold aElems at ha
  split at ha
  · split at ha
    · rename_i s
      split at ha
      · rename_i h1
        have h1 := beq_eq h1
        subst h1
        simp only [Option.some.injEq] at ha
        subst ha
        have hv := hx.str
        subst hv
        refine ⟨byteCells s, ?_, ?_⟩
        · have := Src.ofString w (hstr rfl) s
          have hl : (bytesD s).length = s.size := by simp [bytesD]
          rw [hl]
          exact this
        · have : ∀ bs : List UInt8, DRelE w (E.NN ρ h) 1 (bs.map fun b => D.int .u8 b.toNat) (bs.map fun b => Value.int .u8 b.toNat) := by
            intro bs
            induction bs with
            | nil => simp [DRelE]
            | cons b bs ih =>
              rw [List.map_cons, List.map_cons, DRelE.cons_iff]
              exact ⟨.int .u8 b.toNat, _, rfl, rfl, by simp only [DRel], ih⟩
          exact this _
      · simp at ha
    · simp at ha
  · obtain ⟨e, he⟩ := hsl rfl
    have nilsrc : ∀ (ad : Option Addr) (c : Nat), Src P sz tx (.slice ad 0 c) 0 [] w := by
      intro ad c
      cases ad with
      | none => exact Src.ofNil w he c
      | some ad => exact Src.ofSlice w he ad 0 c [] (by simp) (by simp) (by simp)
    split at ha
    · simp only [Option.some.injEq] at ha
      subst ha
      simp only [VRel] at hx
      obtain ⟨ad, rfl⟩ := hx
      exact ⟨[], nilsrc ad 0, by simp [DRelE]⟩
    · rename_i sz' es'
      simp only [VRel, DRel] at hx
      obtain ⟨ad, len, cap, rfl, rfl, _, hd⟩ := hx
      have empty : es' = [] → ∃ news, Src P sz tx (.slice ad es'.length cap) es'.length news w ∧ DRelE w (E.NN ρ h) sz es' news := by
        rintro rfl
        exact ⟨[], nilsrc ad cap, by simp [DRelE]⟩
      split at ha
      · rename_i hsz
        have hsz := beq_eq hsz
        subst hsz
        simp only [Option.some.injEq] at ha
        subst ha
        rcases hd with h0 | ⟨b, o, vs, rfl, hN, hb, hc, hde⟩
        · exact empty h0
        · exact ⟨vs, Src.ofSlice w he _ _ _ vs hde.length (fun j u hj => by rw [add_eq]; exact hc j u hj) (one_of_plainE hpl hde), hde⟩
      · split at ha
        · simp only [Option.some.injEq] at ha
          subst ha
          exact empty rfl
        · simp at ha
    · rename_i id off len cap
      simp only [VRel] at hx
      split at ha
      case h_2 => simp at ha
      rename_i sz' es' hk
      rw [hk] at hx
      split at ha
      case h_2 => simp at ha
      rename_i hsz
      have hsz := beq_eq hsz
      subst hsz
      simp only [Option.some.injEq] at ha
      subst ha
      obtain ⟨_, hl, hcases⟩ := ref_cells r hk hx
      rcases hcases with ⟨_, ⟨ad, rfl⟩, rfl, h0⟩ | ⟨q, ad, c, vs, hq, rfl, _, _, had, _, hc, hde⟩
      · have : subR [] off len = [] := by cases off <;> cases len <;> simp [subR]
        rw [this]
        exact ⟨[], nilsrc ad 0, by simp [DRelE]⟩
      · rcases had with hc0 | rfl
        · have h0 : (subR es' off len) = [] := List.eq_nil_of_length_eq_zero (by omega)
          rw [h0]
          exact ⟨[], nilsrc ad c, by simp [DRelE]⟩
        · exact ⟨vs, Src.ofSlice w he _ _ _ vs hde.length (fun j u hj => by rw [add_eq]; exact hc j u hj) (one_of_plainE hpl hde), hde⟩
    · simp at ha

/-- A block dies: nobody looks at it any more. -/
theorem RelAt.kill {E : Env} {ρ : Ren} {t : Nat → V} {h : Hp} {a : Act} {w : World} (r : RelAt E ρ t h a w) {id : Nat} (hid : h id ≠ none) : RelAt E ρ t (upd h id (some .dead)) a w ∧ KeepV w w (E.NN ρ h) (E.NN ρ (upd h id (some .dead))) ρ ρ h (upd h id (some .dead)) := by
  have hlive : ∀ j, live (upd h id (some .dead) j) = true → live (h j) = true ∧ j ≠ id := by
    intro j hj
    by_cases e : j = id
    · subst e; rw [upd_same] at hj; simp [live] at hj
    · rw [upd_other _ _ e] at hj; exact ⟨hj, e⟩
  refine r.step (Nat.le_refl _) (fun _ _ _ => rfl) (fun j => ?_) (fun _ _ _ => rfl) (fun j q hj hq => ⟨r.lt j q (hlive j hj).1 hq, .inr ⟨j, q, (hlive j hj).1, hq, rfl⟩⟩)
    (fun j j' q q' hj hj' hq hq' he => r.inj j j' q q' (hlive j hj).1 (hlive j' hj').1 hq hq' he) (fun k j b hjb => ?_) rfl rfl rfl
  · by_cases e : j = id
    · subst e
      rw [upd_same]
      cases hb : h j with
      | none => exact absurd hb hid
      | some b => cases b <;> simp [BlkLe]
    · rw [upd_other _ _ e]; exact BlkLe.refl _
  · by_cases e : j = id
    · subst e
      rw [upd_same] at hjb
      obtain rfl := Option.some.inj hjb
      trivial
    · rw [upd_other _ _ e] at hjb
      exact r.others hjb k (fun _ _ _ => rfl)

/-- An empty row that lies nowhere: a nil slice. -/
theorem RelAt.virt {E : Env} {ρ : Ren} {t : Nat → V} {h : Hp} {a : Act} {w : World} (r : RelAt E ρ t h a w) {id : Nat} (hid : h id = none) (sz : Nat) : RelAt E (upd ρ id none) t (upd h id (some (.row sz []))) a w := by
  have hne : ∀ j, live (h j) = true → j ≠ id := fun j hj e => by subst e; rw [hid] at hj; simp [live] at hj
  have hold : ∀ j q, live (upd h id (some (.row sz [])) j) = true → upd ρ id none j = some q → live (h j) = true ∧ ρ j = some q := by
    intro j q hj hq
    by_cases e : j = id
    · subst e; rw [upd_same] at hq; cases hq
    · rw [upd_other _ _ e] at hj hq; exact ⟨hj, hq⟩
  refine (r.step (Nat.le_refl _) (fun _ _ _ => rfl) (fun j => ?_) (fun j hj _ => upd_other _ _ (hne j hj)) (fun j q hj hq => ?_) (fun j j' q q' hj hj' hq hq' he => ?_) (fun k j b hjb => ?_) rfl rfl rfl).1
  · by_cases e : j = id
    · subst e; rw [hid]; trivial
    · rw [upd_other _ _ e]; exact BlkLe.refl _
  · obtain ⟨h1, h2⟩ := hold j q hj hq
    exact ⟨r.lt j q h1 h2, .inr ⟨j, q, h1, h2, rfl⟩⟩
  · obtain ⟨h1, h2⟩ := hold j q hj hq
    obtain ⟨h3, h4⟩ := hold j' q' hj' hq'
    exact r.inj j j' q q' h1 h3 h2 h4 he
  · by_cases e : j = id
    · subst e
      rw [upd_same] at hjb ⊢
      obtain rfl := Option.some.inj hjb
      exact .inl ⟨rfl, rfl⟩
    · rw [upd_other _ _ e] at hjb ⊢
      exact r.others hjb k (fun _ _ _ => rfl)

/-- A row goes over into another one that lies in the same block. -/
theorem RelAt.over {E : Env} {ρ : Ren} {t : Nat → V} {h : Hp} {a : Act} {w : World} (r : RelAt E ρ t h a w) {id id' : Nat} {blk : Blk} (hid : h id = some blk) (hl : live (some blk) = true) (hid' : h id' = none) {q : Pl} (hq : ρ id = some q) {o : Nat}
    {cells cells' : Array Value} {elem : TypeId} (hb : w.heap[q.b]? = some (.cells cells elem (0, 0))) (hsz : cells'.size = q.n) {sz : Nat} {es : List D} {pre vs post : List Value} (hcells : cells'.toList = pre ++ vs ++ post) (hpre : pre.length = o)
    (hrel : DRelE w (E.NN ρ h) sz es vs) :
    RelAt E (upd ρ id' (some ⟨q.b, o, q.n⟩)) t (upd (upd h id (some .dead)) id' (some (.row sz es))) a (w.setRow q.b cells') := by
  have hmine : Mine ρ h q.b := ⟨id, q, by rw [hid]; exact hl, hq, rfl⟩
  have hother : ∀ b, b ≠ q.b → (w.setRow q.b cells').heap[b]? = w.heap[b]? := fun b hb => setRow_other w q.b b cells' hb
  have hthis : (w.setRow q.b cells').heap[q.b]? = some (.cells cells' elem (0, 0)) := setRow_heap w q.b cells cells' elem (0, 0) hb
  have hne : id ≠ id' := fun e => by subst e; rw [hid] at hid'; cases hid'
  have hold : ∀ j, j ≠ id' → live (upd (upd h id (some .dead)) id' (some (.row sz es)) j) = true → live (h j) = true ∧ j ≠ id := by
    intro j e hj
    rw [upd_other _ _ e] at hj
    by_cases e2 : j = id
    · subst e2; rw [upd_same] at hj; simp [live] at hj
    · rw [upd_other _ _ e2] at hj; exact ⟨hj, e2⟩
  refine (r.step (by simp) (fun b _ hm => hother b (fun e => hm (e ▸ hmine))) (fun j => ?_) (fun j hj hj' => ?_) (fun j p hj hp => ?_) (fun j j' p p' hj hj' hp hp' he => ?_) (fun k j b hjb => ?_) rfl rfl rfl).1
  · by_cases e : j = id'
    · subst e; rw [hid']; trivial
    · rw [upd_other _ _ e]
      by_cases e2 : j = id
      · subst e2; rw [upd_same, hid]; cases blk <;> simp [BlkLe]
      · rw [upd_other _ _ e2]; exact BlkLe.refl _
  · by_cases e : j = id'
    · subst e; rw [hid'] at hj; simp [live] at hj
    · rw [upd_other _ _ e]
  · by_cases e : j = id'
    · subst e
      rw [upd_same] at hp
      obtain rfl := Option.some.inj hp
      exact ⟨by simpa using r.lt id q (by rw [hid]; exact hl) hq, .inr hmine⟩
    · obtain ⟨h1, _⟩ := hold j e hj
      rw [upd_other _ _ e] at hp
      exact ⟨by simpa using r.lt j p h1 hp, .inr ⟨j, p, h1, hp, rfl⟩⟩
  · have cross : ∀ j p, j ≠ id' → live (upd (upd h id (some .dead)) id' (some (.row sz es)) j) = true → upd ρ id' (some ⟨q.b, o, q.n⟩) j = some p → p.b ≠ q.b := by
      intro j p e hj hp he
      obtain ⟨h1, h2⟩ := hold j e hj
      rw [upd_other _ _ e] at hp
      exact h2 (r.inj j id p q h1 (by rw [hid]; exact hl) hp hq he)
    by_cases e : j = id' <;> by_cases e' : j' = id'
    · rw [e, e']
    · subst e
      rw [upd_same] at hp
      obtain rfl := Option.some.inj hp
      exact absurd he.symm (cross j' p' e' hj' hp')
    · subst e'
      rw [upd_same] at hp'
      obtain rfl := Option.some.inj hp'
      exact absurd he (cross j p e hj hp)
    · obtain ⟨h1, _⟩ := hold j e hj
      obtain ⟨h2, _⟩ := hold j' e' hj'
      rw [upd_other _ _ e] at hp
      rw [upd_other _ _ e'] at hp'
      exact r.inj j j' p p' h1 h2 hp hp' he
  · by_cases e : j = id'
    · subst e
      rw [upd_same] at hjb ⊢
      obtain rfl := Option.some.inj hjb
      exact .inr ⟨_, cells', elem, pre, vs, post, rfl, hthis, hsz, hcells, hpre, DRelE.keep k.data _ _ _ hrel⟩
    · rw [upd_other _ _ e] at hjb ⊢
      by_cases e2 : j = id
      · subst e2
        rw [upd_same] at hjb
        obtain rfl := Option.some.inj hjb
        trivial
      · rw [upd_other _ _ e2] at hjb
        exact r.others hjb k (fun p hp hlj => hother _ (fun he => e2 (r.inj j id p q hlj (by rw [hid]; exact hl) hp hq he)))

/-! ### append -/
structure AppO where
  kill : Option Nat
  sz : Nat
  es : List D

def aAppend (P : Program) (h : Hp) (keep : Bool) (t tx : TypeId) (s x : V) : Option (AppO × List Prop) :=
  match P.underlying t with
  | some (.slice e) => match P.info? e with
    | none => none
    | some i => match i.zero with
      | none => none
      | some z => match Nat.beq z.cells.size i.size, Nat.blt 0 i.size, Nat.blt 0 i.bytes, (match P.underlying tx with | some .string => some true | some (.slice _) => some false | _ => none) with
        | true, true, true, some str => match aElems h i.size str x with
          | none => none
          | some news => match s with
            | .nils => some (⟨none, i.size, news⟩, [PlainE news, news.length * i.bytes ≤ 140737488355328])
            | .ref id off len cap => match h id with
              | some (.row sz es) => match Nat.beq sz i.size with
                | false => none
                | true => match keep with
                  | false => some (⟨some id, i.size, subR es off len ++ news⟩, [PlainE news, ((subR es off len).length + news.length) * i.bytes ≤ 140737488355328])
                  | true => match cap with
                    | none => none
                    | some k => some (⟨none, i.size, subR es off len ++ news⟩, [PlainE news, ((subR es off len).length + news.length) * i.bytes ≤ 140737488355328, k < (subR es off len).length + news.length])
              | _ => none
            | _ => none
        | _, _, _, _ => none
  | _ => none

def killH (h : Hp) : Option Nat → Hp
  | none => h
  | some id => upd h id (some .dead)

theorem zeroCells_size (z : Array Value) (n : Nat) : (Builtin.zeroCells z n).size = n * z.size := by simp [Builtin.zeroCells]

/-- Where there is no room: a new row. -/
theorem append_grow {E : Env} {ρ : Ren} {t : Nat → V} {h : Hp} {a : Act} {w : World} (r : RelAt E ρ t h a w) {id' : Nat} (hid' : h id' = none) {ty tx uy e : TypeId} {i : TypeInfo} {z : Value} (ht : P.underlying ty = some (.slice e)) (hi : P.info? e = some i) (hz : i.zero = some z) (hzs : z.cells.size = i.size)
    (hby : 0 < i.bytes) {base : Option Addr} {L c : Nat} {olds news : List Value} {oes nes : List D} (hold : (Builtin.firstCells i.size L (.slice base L c)).run P w.drew = .ok olds.toArray w.drew) (ho : DRelE w (E.NN ρ h) i.size oes olds) (hL : oes.length = L)
    {x : Value} (hs : Src P i.size tx x nes.length news w) (hn : DRelE w (E.NN ρ h) i.size nes news) (hg : c < L + nes.length) (hfit : (L + nes.length) * i.bytes ≤ 140737488355328) :
    ∃ v w' ρ', (Builtin.append_ #[ty, tx] uy #[.slice base L c, x]).run P w = .ok v w' ∧ RelAt E ρ' t (upd h id' (some (.row i.size (oes ++ nes)))) a w' ∧
      VRel w' (E.NN ρ' (upd h id' (some (.row i.size (oes ++ nes))))) ρ' (upd h id' (some (.row i.size (oes ++ nes)))) (.ref id' 0 none none) v := by
  have hb1 : L + nes.length ≤ 140737488355328 := by
    have := Nat.mul_le_mul_left (L + nes.length) hby
    omega
  have hnext : Builtin.nextslicecap (L + nes.length) c * i.bytes ≤ 281474976710656 := growslice_fits hg hfit
  have run := run_append_grow_src (P := P) w ty tx uy e i z ht hi hz base L c olds hold x nes.length news hs hg (by omega) hnext
  have hol := ho.length
  have hnl := hn.length
  have hge := grownCap_ge w (L + nes.length) c e
  generalize grownCap w (L + nes.length) c e = G at run hge
  have hXs : ((olds ++ news).toArray ++ Builtin.zeroCells z.cells (G - (L + nes.length))).size = G * i.size := by
    rw [Array.size_append, List.size_toArray, List.length_append, hol, hnl, zeroCells_size, hzs, ← Nat.add_mul, ← Nat.add_mul]
    congr 1
    omega
  have rd : RelAt E ρ t h a w.drew := r.drew rfl rfl rfl rfl
  have hrow : DRelE w.drew (E.NN ρ h) i.size (oes ++ nes) (olds ++ news) := DRelE.keep (w := w) (w' := w.drew) (N := E.NN ρ h) ⟨Nat.le_refl _, fun _ _ _ => rfl, fun _ _ h => h⟩ _ _ _ (ho.append hn)
  refine ⟨_, _, _, run, rd.newRow (X := (olds ++ news).toArray ++ Builtin.zeroCells z.cells (G - (L + nes.length))) (post := (Builtin.zeroCells z.cells (G - (L + nes.length))).toList) hid' e rfl rfl rfl rfl (by simp) hrow, ?_⟩
  have := rowRef (w := w.drew.alloc (.cells ((olds ++ news).toArray ++ Builtin.zeroCells z.cells (G - (L + nes.length))) e)) (N := E.NN (upd ρ id' (some ⟨w.drew.heap.size, 0, ((olds ++ news).toArray ++ Builtin.zeroCells z.cells (G - (L + nes.length))).size⟩)) (upd h id' (some (.row i.size (oes ++ nes)))))
    (ρ := ρ) (h := h) (id := id') (b := w.drew.heap.size) (n := ((olds ++ news).toArray ++ Builtin.zeroCells z.cells (G - (L + nes.length))).size) (sz := i.size) (c := G) (es := oes ++ nes) (cap := none) (by rw [List.length_append]; omega) (fun k hk => by cases hk) (by rw [hXs]; exact Nat.le_refl _)
  rw [List.length_append, hL] at this
  exact this

theorem Steps.append {op : Oper} {ty tx : TypeId} {s x : Operand} (ho : op.op = .call { callee := .builtin .append, args := #[s, x], argTypes := #[ty, tx] }) {keep : Bool} {t : Nat → V} {h : Hp} {id' : Nat} {o : AppO} {p : List Prop}
    (ha : aAppend P h keep ty tx (evalV t s) (evalV t x) = some (o, p)) (hp : AllP p) (hid' : h id' = none) : Steps P op t h (.ref id' 0 none none) (upd (killH h o.kill) id' (some (.row o.sz o.es))) := by
  intro E ρ a w r
  have hs := r.eval s
  have hx := r.eval x
  unfold aAppend at ha
  split at ha
  case h_2 => simp at ha
  rename_i e hu
  split at ha
  · simp at ha
  rename_i i hi
  split at ha
  · simp at ha
  rename_i z hz
  split at ha
  case h_2 => simp at ha
  rename_i str hzs hpos hby hstr
  have hzs := beq_eq hzs
  have hpos : 0 < i.size := by simpa using hpos
  have hby : 0 < i.bytes := by simpa using hby
  have hstr1 : str = true → P.underlying tx = some .string := by
    intro h1
    subst h1
    split at hstr
    · assumption
    · simp at hstr
    · simp at hstr
  have hstr2 : str = false → ∃ e, P.underlying tx = some (.slice e) := by
    intro h1
    subst h1
    split at hstr
    · simp at hstr
    · exact ⟨_, by assumption⟩
    · simp at hstr
  split at ha
  · simp at ha
  rename_i nes hel
  have fin : ∀ v w', (Builtin.append_ #[ty, tx] op.type #[a.eval s, a.eval x]).run P w = .ok v w' → (execOp a.eval op).run P w = .ok (.value v) w' := by
    intro v w' hv
    rw [run_builtin ho]
    simp [builtin, hv]
  split at ha
  · rename_i es
    rw [es] at hs
    simp only [Option.some.injEq, Prod.mk.injEq] at ha
    obtain ⟨rfl, rfl⟩ := ha
    simp only [VRel] at hs
    obtain ⟨ad, hsv⟩ := hs
    obtain ⟨news, hsrc, hnr⟩ := elems_src r hstr1 hstr2 hx hel hp.1
    have hfit := hp.2.1
    by_cases hn : nes = []
    · subst hn
      have hnews : news = [] := by rw [DRelE.nil_iff] at hnr; exact hnr
      subst hnews
      refine ⟨.value (.slice ad 0 0), w, _, ?_, r.virt hid' i.size, .inl ⟨_, rfl, ?_⟩⟩
      · apply fin
        rw [hsv]
        have := run_append_nothing (P := P) w ty tx op.type e i hu hi ad 0 0 (Nat.le_refl _) (a.eval x) hsrc
        exact this
      · simp only [VRel, killH, upd_same, RefRel]
        exact ⟨by simp, ⟨ad, rfl⟩, by simp, .inl trivial⟩
    · have hlen : 0 < nes.length := List.length_pos_iff.2 hn
      obtain ⟨v, w', ρ', h1, h2, h3⟩ := append_grow (P := P) (tx := tx) (uy := op.type) r hid' hu hi hz hzs hby (base := ad) (L := 0) (c := 0) (olds := []) (oes := []) (by cases ad <;> simp [Builtin.firstCells, loadCells, loadCellsFrom]) (by simp [DRelE]) rfl hsrc hnr (by omega) (by simpa using hfit)
      exact ⟨.value v, w', ρ', fin v w' (by rw [hsv]; exact h1), by simpa [killH] using h2, .inl ⟨v, rfl, by simpa [killH] using h3⟩⟩
  · rename_i id off len cap es
    rw [es] at hs
    simp only [VRel] at hs
    split at ha
    case h_2 => simp at ha
    rename_i sz oes hk
    rw [hk] at hs
    split at ha
    · simp at ha
    rename_i hsz
    have hsz := beq_eq hsz
    subst hsz
    obtain ⟨hle, hlen, hcases⟩ := ref_cells r hk hs
    have hidne : h id ≠ none := by rw [hk]; simp
    have hne : id ≠ id' := fun e => by subst e; rw [hid'] at hk; cases hk
    -- where a new row is made
    have grow : ∀ (base : Option Addr) (c : Nat) (olds : List Value), a.eval s = .slice base (subR oes off len).length c → (Builtin.firstCells i.size (subR oes off len).length (.slice base (subR oes off len).length c)).run P w.drew = .ok olds.toArray w.drew →
        DRelE w (E.NN ρ h) i.size (subR oes off len) olds → c < (subR oes off len).length + nes.length → ((subR oes off len).length + nes.length) * i.bytes ≤ 140737488355328 → PlainE nes → ∀ k : Option Nat, (k = none ∨ k = some id) →
        ∃ n w' ρ', (execOp a.eval op).run P w = .ok n w' ∧ RelAt E ρ' t (upd (killH h k) id' (some (.row i.size (subR oes off len ++ nes)))) a w' ∧
          ((∃ v, n = .value v ∧ VRel w' (E.NN ρ' (upd (killH h k) id' (some (.row i.size (subR oes off len ++ nes))))) ρ' (upd (killH h k) id' (some (.row i.size (subR oes off len ++ nes)))) (.ref id' 0 none none) v) ∨ (n = .skip ∧ V.ref id' 0 none none = .undef)) := by
      intro base c olds hsv hold hor hg hfit hpl k hk'
      obtain ⟨news, hsrc, hnr⟩ := elems_src r hstr1 hstr2 hx hel hpl
      rcases hk' with rfl | rfl
      · obtain ⟨v, w', ρ', h1, h2, h3⟩ := append_grow (P := P) (tx := tx) (uy := op.type) r hid' hu hi hz hzs hby hold hor rfl hsrc hnr hg hfit
        exact ⟨.value v, w', ρ', fin v w' (by rw [hsv]; exact h1), h2, .inl ⟨v, rfl, h3⟩⟩
      · obtain ⟨rk, kk⟩ := r.kill hidne
        obtain ⟨v, w', ρ', h1, h2, h3⟩ := append_grow (P := P) (tx := tx) (uy := op.type) rk (id' := id') (by rw [upd_other _ _ (Ne.symm hne)]; exact hid') hu hi hz hzs hby hold (DRelE.keep kk.data _ _ _ hor) rfl hsrc (DRelE.keep kk.data _ _ _ hnr) hg hfit
        exact ⟨.value v, w', ρ', fin v w' (by rw [hsv]; exact h1), h2, .inl ⟨v, rfl, h3⟩⟩
    have firsts : ∀ (base : Option Addr) (c : Nat) (q : Pl) (vs : List Value), (c = 0 ∨ base = some ⟨q.b, q.o + off * i.size, none⟩) → (subR oes off len).length ≤ c → CellsAt w q.b (q.o + off * i.size) vs → DRelE w (E.NN ρ h) i.size (subR oes off len) vs →
        (Builtin.firstCells i.size (subR oes off len).length (.slice base (subR oes off len).length c)).run P w.drew = .ok vs.toArray w.drew := by
      intro base c q vs hb hc hcells hrel
      have hl := hrel.length
      cases base with
      | none =>
        have h0 : (subR oes off len).length = 0 := by
          rcases hb with hb | hb
          · omega
          · cases hb
        have : vs = [] := List.eq_nil_of_length_eq_zero (by rw [hl, h0, Nat.zero_mul])
        subst this
        exact run_firstCells_none _ _ _ _ _
      | some ad =>
        rcases hb with hb | hb
        · have h0 : (subR oes off len).length = 0 := by omega
          have : vs = [] := List.eq_nil_of_length_eq_zero (by rw [hl, h0, Nat.zero_mul])
          subst this
          exact run_firstCells_some _ _ _ _ _ _ [] (by simpa using hl) (by simp)
        · obtain rfl := Option.some.inj hb
          exact run_firstCells_some _ _ _ _ _ _ vs hl (fun j u hj => by rw [add_eq]; exact hcells j u hj)
    split at ha
    · simp only [Option.some.injEq, Prod.mk.injEq] at ha
      obtain ⟨rfl, rfl⟩ := ha
      have hpl := hp.1
      have hfit := hp.2.1
      rcases hcases with ⟨hq, ⟨ad, hsv⟩, hoes, h0⟩ | ⟨q, ad, c, vs, hq, hsv, hLc, hcap, had, hroom, hcells, hrel⟩
      · have hsub : subR oes off len = [] := List.eq_nil_of_length_eq_zero (by omega)
        have hlen0 : (subR oes off len).length = 0 := by rw [hsub]; rfl
        by_cases hn : nes = []
        · subst hn
          obtain ⟨news, hsrc, hnr⟩ := elems_src r hstr1 hstr2 hx hel hpl
          have hnews : news = [] := by rw [DRelE.nil_iff] at hnr; exact hnr
          subst hnews
          obtain ⟨rk, _⟩ := r.kill hidne
          have hid2 : upd h id (some .dead) id' = none := by rw [upd_other _ _ (Ne.symm hne)]; exact hid'
          have hv := rk.virt hid2 i.size
          refine ⟨.value (.slice ad 0 0), w, upd ρ id' none, ?_, ?_, .inl ⟨_, rfl, ?_⟩⟩
          · apply fin
            rw [hsv]
            exact run_append_nothing (P := P) w ty tx op.type e i hu hi ad 0 0 (Nat.le_refl _) (a.eval x) hsrc
          · simpa [hsub, killH] using hv
          · simp only [VRel, killH, upd_same, RefRel, hsub]
            exact ⟨by simp, ⟨ad, rfl⟩, by simp, .inl trivial⟩
        · have hnl : 0 < nes.length := List.length_pos_iff.2 hn
          refine grow ad 0 [] (by rw [hsv, hlen0]) ?_ (by rw [hsub]; simp [DRelE]) (by omega) hfit hpl (some id) (.inr rfl)
          rw [hlen0]
          cases ad <;> simp [Builtin.firstCells, loadCells, loadCellsFrom]
      · by_cases hg : c < (subR oes off len).length + nes.length
        · exact grow ad c vs hsv (firsts ad c q vs had hLc hcells hrel) hrel hg hfit hpl (some id) (.inr rfl)
        · have hg : (subR oes off len).length + nes.length ≤ c := by omega
          obtain ⟨news, hsrc, hnr⟩ := elems_src r hstr1 hstr2 hx hel hpl
          have hnl := hnr.length
          have hvl := hrel.length
          rcases had with hc0 | had
          · -- nothing, and no room
            subst hc0
            have hL0 : (subR oes off len).length = 0 := by omega
            have hn : nes = [] := List.eq_nil_of_length_eq_zero (by omega)
            have hsub : subR oes off len = [] := List.eq_nil_of_length_eq_zero hL0
            subst hn
            have hnews : news = [] := by rw [DRelE.nil_iff] at hnr; exact hnr
            subst hnews
            obtain ⟨rk, _⟩ := r.kill hidne
            have hid2 : upd h id (some .dead) id' = none := by rw [upd_other _ _ (Ne.symm hne)]; exact hid'
            have hv := rk.virt hid2 i.size
            refine ⟨.value (.slice ad 0 0), w, upd ρ id' none, ?_, ?_, .inl ⟨_, rfl, ?_⟩⟩
            · apply fin
              rw [hsv, hL0]
              exact run_append_nothing (P := P) w ty tx op.type e i hu hi ad 0 0 (Nat.le_refl _) (a.eval x) hsrc
            · simpa [hsub, killH] using hv
            · simp only [VRel, killH, upd_same, RefRel, hsub]
              exact ⟨by simp, ⟨ad, rfl⟩, by simp, .inl trivial⟩
          · subst had
            have hblk := r.heap id _ hk
            rw [hq] at hblk
            rcases hblk with ⟨hbad, _⟩ | ⟨q', cells, elem, pre, vs0, post, hq', hb, hsize, _, _, _⟩
            · cases hbad
            obtain rfl := Option.some.inj hq'
            have hL : (subR oes off len).length * i.size + nes.length * i.size ≤ c * i.size := by rw [← Nat.add_mul]; exact Nat.mul_le_mul_right _ hg
            have hroom' : q.o + off * i.size + c * i.size ≤ cells.size := by rw [hsize]; rw [Nat.add_mul] at hroom; omega
            have hat : ∀ j, j < vs.length → cells.toList[q.o + off * i.size + j]? = vs[j]? := by
              intro j hj
              have := hcells j _ (List.getElem?_eq_getElem hj)
              rw [cell_of_row w q.b _ cells elem (0, 0) hb] at this
              rw [List.getElem?_eq_getElem hj, ← this]
              simp
            have htake : (cells.toList.drop (q.o + off * i.size)).take vs.length = vs := by
              apply List.ext_getElem?
              intro j
              rw [List.getElem?_take]
              split
              · rename_i hj
                rw [List.getElem?_drop]
                exact hat j hj
              · rename_i hj
                rw [List.getElem?_eq_none (by omega)]
            have hsplit : splice cells.toList (q.o + off * i.size + (subR oes off len).length * i.size) news = cells.toList.take (q.o + off * i.size) ++ (vs ++ news) ++ cells.toList.drop (q.o + off * i.size + (subR oes off len).length * i.size + news.length) := by
              unfold splice
              rw [← hvl, List.take_add, htake]
              simp [List.append_assoc]
            have hstore : w.setCells q.b (q.o + off * i.size + (subR oes off len).length * i.size) news = w.setRow q.b (splice cells.toList (q.o + off * i.size + (subR oes off len).length * i.size) news).toArray := by
              have h1 := run_storeCells_at P q.b (q.o + off * i.size + (subR oes off len).length * i.size) elem news 0 cells w hb (by omega) hsrc.one
              have h2 := run_storeCells_cells (P := P) q.b (q.o + off * i.size + (subR oes off len).length * i.size) news 0 w
                (fun j hj => by rw [cell_of_row w q.b _ cells elem (0, 0) hb]; simp; omega) (fun j hj => frozen_of_row w q.b _ cells elem hb) hsrc.one
              rw [h1] at h2
              simp only [Nat.add_zero, Result.ok.injEq, true_and] at h2
              exact h2.symm
            have run := run_append_room_src (P := P) w ty tx op.type e i hu hi q.b (q.o + off * i.size) (subR oes off len).length c (a.eval x) nes.length news hsrc hg
              (fun j hj => by rw [cell_of_row w q.b _ cells elem (0, 0) hb]; simp; omega) (fun j hj => frozen_of_row w q.b _ cells elem hb)
            rw [hstore] at run
            have hsz' : (splice cells.toList (q.o + off * i.size + (subR oes off len).length * i.size) news).toArray.size = q.n := by
              rw [List.size_toArray, splice_length (by simp only [Array.length_toList]; omega)]
              simpa using hsize
            refine ⟨.value (.slice (some ⟨q.b, q.o + off * i.size, none⟩) ((subR oes off len).length + nes.length) c), _, _, ?_, r.over (o := q.o + off * i.size) (pre := cells.toList.take (q.o + off * i.size)) (vs := vs ++ news) hk rfl hid' hq hb hsz' hsplit (by rw [List.length_take, Array.length_toList]; omega) (hrel.append hnr), .inl ⟨_, rfl, ?_⟩⟩
            · apply fin
              rw [hsv]
              exact run
            · simp only [VRel, upd_same, RefRel, Option.getD_none, List.length_append]
              refine ⟨by omega, some ⟨q.b, q.o + off * i.size, none⟩, c, by simp, by omega, (fun k hk => by cases hk), .inr (by simp), ?_⟩
              rw [Nat.zero_add]
              omega
    · split at ha
      · simp at ha
      · rename_i k
        simp only [Option.some.injEq, Prod.mk.injEq] at ha
        obtain ⟨rfl, rfl⟩ := ha
        have hpl := hp.1
        have hfit := hp.2.1
        have hk1 := hp.2.2.1
        rcases hcases with ⟨hq, ⟨ad, hsv⟩, hoes, h0⟩ | ⟨q, ad, c, vs, hq, hsv, hLc, hcap, had, hroom, hcells, hrel⟩
        · have hsub : subR oes off len = [] := List.eq_nil_of_length_eq_zero (by omega)
          have hlen0 : (subR oes off len).length = 0 := by rw [hsub]; rfl
          refine grow ad 0 [] (by rw [hsv, hlen0]) ?_ (by rw [hsub]; simp [DRelE]) (by omega) hfit hpl none (.inl rfl)
          rw [hlen0]
          cases ad <;> simp [Builtin.firstCells, loadCells, loadCellsFrom]
        · have := hcap k rfl
          subst this
          exact grow ad c vs hsv (firsts ad c q vs had hLc hcells hrel) hrel hk1 hfit hpl none (.inl rfl)
  · simp at ha

end Go.Own
