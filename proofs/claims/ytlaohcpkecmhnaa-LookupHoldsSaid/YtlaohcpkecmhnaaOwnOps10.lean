/-
Within a row's room: append in place, a slice up to the capacity, clear.
-/
import Derived.Test.YtlaohcpkecmhnaaOwnOps9
import Derived.Test.YtlaohcpkecmhnaaOwnOps8

set_option linter.all false

namespace Go.Own
open Go (Value IntKind BinOp UnOp TypeId FuncId)

variable {P : Program}

/-! ### A slice up to the known capacity -/
def aSliceC (P : Program) (h : Hp) (t : TypeId) (x : V) (lo hi : Option V) (full : Bool) : Option (V × List Prop) :=
  match bnd lo, bnd hi, full with
  | some (some l), some (some u), false => match P.underlying t with
    | some (.slice e) => match P.info? e with
      | none => none
      | some ie => match x with
        | .ref id off len (some k) => match h id with
          | some (.row sz es) => match Nat.beq sz ie.size with
            | true => some (.ref id (addN off l.toNat) (some (u.toNat - l.toNat)) (some (k - l.toNat)), [0 ≤ l ∧ l ≤ u ∧ u ≤ (k : Int) ∧ off + u.toNat ≤ es.length ∧ es ≠ []])
            | false => none
          | _ => none
        | _ => none
    | _ => none
  | _, _, _ => none

theorem Makes.sliceC {op : Oper} {ty : TypeId} {x : Operand} {lo hi mx : Option Operand} (ho : op.op = .slice ty x lo hi mx) {t : Nat → V} {h : Hp} {r : V} {p : List Prop}
    (ha : aSliceC P h ty (evalV t x) (lo.map (evalV t)) (hi.map (evalV t)) mx.isSome = some (r, p)) (hp : AllP p) : Makes P op t h r := by
  intro E ρ a w rel
  have hx := rel.eval x
  unfold aSliceC at ha
  split at ha
  case h_2 => simp at ha
  rename_i l u el eu em
  have hmx : mx = none := by cases mx with | none => rfl | some _ => simp at em
  subst hmx
  obtain ⟨hl, hl'⟩ := bnd_rel (fun x => rel.eval x) el
  obtain ⟨hu, hu'⟩ := bnd_rel (fun x => rel.eval x) eu
  split at ha
  case h_2 => simp at ha
  rename_i e ht
  split at ha
  · simp at ha
  rename_i ie hie
  split at ha
  case h_2 => simp at ha
  rename_i id off len k e1
  rw [e1] at hx
  simp only [VRel] at hx
  split at ha
  case h_2 => simp at ha
  rename_i sz es hk
  rw [hk] at hx
  split at ha
  case h_2 => simp at ha
  rename_i hsz
  have hsz := beq_eq hsz
  simp only [Option.some.injEq, Prod.mk.injEq] at ha
  obtain ⟨rfl, rfl⟩ := ha
  obtain ⟨b1, b2, b3, b4, b5⟩ := hp.1
  have hs : (sizeOf e).run P w = .ok ie.size w := by simp [sizeOf, typeInfo, hie]
  simp only [RefRel] at hx
  obtain ⟨hle, hx⟩ := hx
  cases hq : ρ id with
  | none =>
    rw [hq] at hx
    obtain ⟨⟨ad, hv⟩, h0, hcap⟩ := hx
    have hb := rel.heap id _ hk
    rw [hq] at hb
    rcases hb with ⟨_, h1⟩ | ⟨q, _, _, _, _, _, h1, _⟩
    · exact absurd h1 b5
    · cases h1
  | some q =>
    rw [hq] at hx
    obtain ⟨ad, c, hv, hlc, hcap, had, hfit⟩ := hx
    have := hcap k rfl
    subst this
    have hlo : ∃ v, lo.map a.eval = some v := by
      cases lo with
      | none => simp [bnd] at el
      | some x => exact ⟨_, rfl⟩
    have hhi : ∃ v, hi.map a.eval = some v := by
      cases hi with
      | none => simp [bnd] at eu
      | some x => exact ⟨_, rfl⟩
    obtain ⟨lv, hlv⟩ := hlo
    obtain ⟨hv', hhv⟩ := hhi
    obtain ⟨k1, n1, rfl, e4⟩ := hl lv hlv
    obtain ⟨k2, n2, rfl, e5⟩ := hu hv' hhv
    obtain rfl := Option.some.inj e4
    obtain rfl := Option.some.inj e5
    have r1 := run_sliceBound (P := P) (w := w) (k := k2) (n := u) (y := c) .sliceAcap ⟨by omega, b3⟩
    have r2 := run_sliceBound (P := P) (w := w) (k := k1) (n := l) (y := u.toNat) .sliceB ⟨b1, by omega⟩
    have hb : (Instr.sliceBounds true (len.getD (es.length - off)) c (some (.int k1 l)) (some (.int k2 u)) none).run P w = .ok (l.toNat, u.toNat, c) w := by
      unfold Instr.sliceBounds
      simp [r1, r2]
    refine ⟨_, by unfold execOp; simp only [ho, hv, hlv, hhv, Option.map_none, Instr.sliceAt, Instr.slice, run_underlying ht, Sem.run_bind, Result.andThen_ok, hb, hs, Sem.run_pure]; rfl, ?_⟩
    simp only [VRel, hk, RefRel, hq, Option.getD_some]
    rw [addN_eq]
    refine ⟨by omega, _, _, rfl, by omega, fun k hk => by simp at hk; omega, ?_, ?_⟩
    · split
      · left; omega
      · rename_i heq
        right
        rcases had with rfl | rfl
        · exfalso; apply heq; omega
        · rw [Option.map_some, add_eq, ← hsz, Nat.add_mul, Nat.add_assoc]
    · have : off + l.toNat + (c - l.toNat) ≤ off + c := by omega
      exact Nat.le_trans (Nat.add_le_add_left (Nat.mul_le_mul_right _ this) _) hfit

/-! ### clear -/
def aClear (P : Program) (h : Hp) (t : TypeId) (x : V) : Option (Nat × Blk × List Prop) :=
  match P.underlying t with
  | some (.slice e) => match P.info? e with
    | none => none
    | some i => match i.zero with
      | none => none
      | some z => match constD z, Nat.beq z.cells.size i.size, Nat.blt 0 i.size with
        | some d, true, true => match x with
          | .ref id off (some n) _ => match h id with
            | some (.row sz es) => match Nat.beq sz i.size with
              | true => some (id, .row sz (es.take off ++ List.replicate n d ++ es.drop (off + n)), [0 < n, off + n ≤ es.length, PlainE (List.replicate n d)])
              | false => none
            | _ => none
          | _ => none
        | _, _, _ => none
  | _ => none

theorem row_splice {w : World} {N : Nat → Prop} {sz : Nat} {es ds : List D} {cells pre vs post zs : List Value} {o off : Nat} (hc : cells = pre ++ vs ++ post) (hpre : pre.length = o) (h : DRelE w N sz es vs) (hz : DRelE w N sz ds zs) (hl : off + ds.length ≤ es.length) :
    cells.take (o + off * sz) ++ zs ++ cells.drop (o + off * sz + zs.length) = pre ++ (vs.take (off * sz) ++ zs ++ vs.drop ((off + ds.length) * sz)) ++ post ∧
    DRelE w N sz (es.take off ++ ds ++ es.drop (off + ds.length)) (vs.take (off * sz) ++ zs ++ vs.drop ((off + ds.length) * sz)) ∧ o + off * sz + zs.length ≤ cells.length := by
  have h1 := h.length
  have h2 := hz.length
  have h3 : (off + ds.length) * sz ≤ es.length * sz := Nat.mul_le_mul_right _ hl
  have h4 : off * sz + ds.length * sz = (off + ds.length) * sz := by rw [Nat.add_mul]
  refine ⟨?_, ((h.take off).append hz).append (h.drop _), ?_⟩
  · subst hc hpre
    rw [List.append_assoc pre vs post, List.take_append, List.drop_append, List.take_of_length_le (by omega), List.drop_eq_nil_of_le (by omega), List.nil_append,
      show pre.length + off * sz - pre.length = off * sz by omega, show pre.length + off * sz + zs.length - pre.length = (off + ds.length) * sz by omega,
      List.take_append, List.drop_append, show off * sz - vs.length = 0 by omega, show (off + ds.length) * sz - vs.length = 0 by omega, List.take_zero, List.drop_zero, List.append_nil]
    simp only [List.append_assoc]
  · subst hc
    simp only [List.length_append]
    omega

theorem Steps.clear {op : Oper} {ty : TypeId} {x : Operand} (ho : op.op = .call { callee := .builtin .clear, args := #[x], argTypes := #[ty] }) {t : Nat → V} {h : Hp} {id : Nat} {blk : Blk} {p : List Prop}
    (ha : aClear P h ty (evalV t x) = some (id, blk, p)) (hp : AllP p) : Steps P op t h (.tup []) (upd h id (some blk)) := by
  intro E ρ a w r
  have hx := r.eval x
  unfold aClear at ha
  split at ha
  case h_2 => simp at ha
  rename_i e hu
  split at ha
  · simp at ha
  rename_i i hi
  split at ha
  · simp at ha
  rename_i z hz
  split at ha
  case h_2 => simp at ha
  rename_i d hd hzs hpos
  have hzs := beq_eq hzs
  have hpos : 0 < i.size := by simpa using hpos
  split at ha
  case h_2 => simp at ha
  rename_i id' off n cap e1
  rw [e1] at hx
  simp only [VRel] at hx
  split at ha
  case h_2 => simp at ha
  rename_i sz es hk
  rw [hk] at hx
  split at ha
  case h_2 => simp at ha
  rename_i hsz
  have hsz := beq_eq hsz
  subst hsz
  simp only [Option.some.injEq, Prod.mk.injEq] at ha
  obtain ⟨rfl, rfl, rfl⟩ := ha
  obtain ⟨hn, hfit, hpl, _⟩ := hp
  obtain ⟨hle, hlen, hcases⟩ := ref_cells r hk hx
  simp only [Option.getD_some] at hlen hle hcases
  rcases hcases with ⟨_, _, hes, _⟩ | ⟨q, ad, c, vs, hq, hsv, hLc, hcap, had, hroom, hcells, hrel⟩
  · exfalso; rw [hes] at hfit; simp at hfit; omega
  have had : ad = some ⟨q.b, q.o + off * i.size, none⟩ := by
    rcases had with h0 | h0
    · omega
    · exact h0
  subst had
  have hblk := r.heap _ _ hk
  rw [hq] at hblk
  rcases hblk with ⟨hbad, _⟩ | ⟨q', cells, elem, pre, vs0, post, hq', hb, hsize, hcl, hpre, hrel0⟩
  · cases hbad
  obtain rfl := Option.some.inj hq'
  have hzero : (zeroValue e).run P w = .ok z w := by simp [zeroValue, typeInfo, hi, hz]
  have zs := zeros_cells z w (E.NN ρ h) (constD_rel hd w (E.NN ρ h)) (by omega) n
  have hZ : (Builtin.zeroCells z.cells n).toList = ((Array.range (n * z.cells.size)).map (fun k => z.cells[k % z.cells.size]!)).toList := by
    simp [Builtin.zeroCells]
  rw [← hZ] at zs
  generalize hY : (Builtin.zeroCells z.cells n).toList = Y at zs
  rw [hzs] at zs
  obtain ⟨s1, s2, s3⟩ := row_splice hcl hpre hrel0 zs (by rw [List.length_replicate]; exact hfit)
  have hone := one_of_plainE hpl zs
  have run := run_storeCells_at P q.b (q.o + off * i.size) elem Y 0 cells w hb (by simpa using s3) hone
  rw [Nat.add_zero, s1] at run
  have hYl := zs.length
  rw [List.length_replicate] at s1 s2
  refine ⟨.value (.tuple #[]), _, ρ, ?_, r.write (cells' := (pre ++ (vs0.take (off * i.size) ++ Y ++ vs0.drop ((off + n) * i.size)) ++ post).toArray) hk rfl rfl hq hb ?_ ?_, .inl ⟨_, rfl, by simp [VRel, VRelL]⟩⟩
  · rw [run_builtin ho]
    rw [hlen] at hsv
    rw [List.length_replicate] at run
    have hn0 : n ≠ 0 := by omega
    obtain ⟨m, rfl⟩ : ∃ m, n = m + 1 := ⟨n - 1, by omega⟩
    simp [builtin, Builtin.clear_, hsv, run_underlying hu, hzero, hY, run]
  · refine ⟨rfl, ?_⟩
    simp only [List.length_append, List.length_take, List.length_drop, List.length_replicate]
    omega
  · intro w' N' k hw'
    refine .inr ⟨q, _, elem, pre, _, post, rfl, hw', ?_, rfl, hpre, DRelE.keep k.data _ _ _ s2⟩
    have e3 := congrArg List.length hcl
    have e4 := hrel0.length
    simp only [List.length_append, Array.length_toList] at e3
    simp only [List.size_toArray, List.length_append, List.length_take, List.length_drop]
    have h3 : (off + n) * i.size ≤ es.length * i.size := Nat.mul_le_mul_right _ hfit
    have h4 : off * i.size + n * i.size = (off + n) * i.size := by rw [Nat.add_mul]
    rw [List.length_replicate] at hYl
    omega

/-! ### append within the room -/
def aAppendFit (P : Program) (h : Hp) (t tx : TypeId) (s x : V) : Option (V × Nat × Blk × List Prop) :=
  match P.underlying t with
  | some (.slice e) => match P.info? e with
    | none => none
    | some i => match Nat.blt 0 i.size, (match P.underlying tx with | some .string => some true | some (.slice _) => some false | _ => none) with
      | true, some str => match aElems h i.size str x with
        | none => none
        | some news => match s with
          | .ref id off len (some k) => match h id with
            | some (.row sz es) => match Nat.beq sz i.size with
              | true => some (.ref id off (some (len.getD (es.length - off) + news.length)) (some k), id, .row sz (es.take (off + len.getD (es.length - off)) ++ news ++ es.drop (off + len.getD (es.length - off) + news.length)),
                  [PlainE news, len.getD (es.length - off) + news.length ≤ k, off + len.getD (es.length - off) + news.length ≤ es.length, 0 < k, es ≠ []])
              | false => none
            | _ => none
          | _ => none
      | _, _ => none
  | _ => none

theorem Steps.appendFit {op : Oper} {ty tx : TypeId} {s x : Operand} (ho : op.op = .call { callee := .builtin .append, args := #[s, x], argTypes := #[ty, tx] }) {t : Nat → V} {h : Hp} {id : Nat} {blk : Blk} {v : V} {p : List Prop}
    (ha : aAppendFit P h ty tx (evalV t s) (evalV t x) = some (v, id, blk, p)) (hp : AllP p) : Steps P op t h v (upd h id (some blk)) := by
  intro E ρ a w r
  have hs := r.eval s
  have hx := r.eval x
  unfold aAppendFit at ha
  split at ha
  case h_2 => simp at ha
  rename_i e hu
  split at ha
  · simp at ha
  rename_i i hi
  split at ha
  case h_2 => simp at ha
  rename_i str hpos hstr
  have hpos : 0 < i.size := by simpa using hpos
  have hstr1 : str = true → P.underlying tx = some .string := by
    intro h1
    subst h1
    split at hstr
    · assumption
    · simp at hstr
    · simp at hstr
  have hstr2 : str = false → ∃ e, P.underlying tx = some (.slice e) := by
    intro h1
    subst h1
    split at hstr
    · simp at hstr
    · exact ⟨_, by assumption⟩
    · simp at hstr
  split at ha
  · simp at ha
  rename_i nes hel
  split at ha
  case h_2 => simp at ha
  rename_i id' off len k e1
  rw [e1] at hs
  simp only [VRel] at hs
  split at ha
  case h_2 => simp at ha
  rename_i sz es hk
  rw [hk] at hs
  split at ha
  case h_2 => simp at ha
  rename_i hsz
  have hsz := beq_eq hsz
  subst hsz
  simp only [Option.some.injEq, Prod.mk.injEq] at ha
  obtain ⟨rfl, rfl, rfl, rfl⟩ := ha
  obtain ⟨hpl, hroomk, hfit, hk0, hne, _⟩ := hp
  obtain ⟨hle, hlen, hcases⟩ := ref_cells r hk hs
  generalize hL : len.getD (es.length - off) = L at *
  rcases hcases with ⟨_, _, hes, _⟩ | ⟨q, ad, c, vs, hq, hsv, hLc, hcap, had, hroom, hcells, hrel⟩
  · exact absurd hes hne
  have := hcap k rfl
  subst this
  have had : ad = some ⟨q.b, q.o + off * i.size, none⟩ := by
    rcases had with h0 | h0
    · omega
    · exact h0
  subst had
  have hblk := r.heap _ _ hk
  rw [hq] at hblk
  rcases hblk with ⟨hbad, _⟩ | ⟨q', cells, elem, pre, vs0, post, hq', hb, hsize, hcl, hpre, hrel0⟩
  · cases hbad
  obtain rfl := Option.some.inj hq'
  obtain ⟨news, hsrc, hnr⟩ := elems_src r hstr1 hstr2 hx hel hpl
  obtain ⟨s1, s2, s3⟩ := row_splice (off := off + L) hcl hpre hrel0 hnr hfit
  have hnl := hnr.length
  have hone := one_of_plainE hpl hnr
  have epos : q.o + off * i.size + L * i.size = q.o + (off + L) * i.size := by rw [Nat.add_mul, Nat.add_assoc]
  have s3' : q.o + (off + L) * i.size + news.length ≤ cells.size := by simpa using s3
  have hstore : w.setCells q.b (q.o + off * i.size + L * i.size) news = w.setRow q.b (pre ++ (vs0.take ((off + L) * i.size) ++ news ++ vs0.drop ((off + L + nes.length) * i.size)) ++ post).toArray := by
    rw [epos]
    have h1 := run_storeCells_at P q.b (q.o + (off + L) * i.size) elem news 0 cells w hb (by simpa using s3') hone
    have h2 := run_storeCells_cells (P := P) q.b (q.o + (off + L) * i.size) news 0 w
      (fun j hj => by rw [cell_of_row w q.b _ cells elem (0, 0) hb]; simp; omega) (fun j hj => frozen_of_row w q.b _ cells elem hb) hone
    rw [h1, Nat.add_zero, s1] at h2
    simp only [Result.ok.injEq, true_and] at h2
    exact h2.symm
  have run := run_append_room_src (P := P) w ty tx op.type e i hu hi q.b (q.o + off * i.size) L c (a.eval x) nes.length news hsrc hroomk
    (fun j hj => by rw [cell_of_row w q.b _ cells elem (0, 0) hb]; simp; rw [epos]; omega) (fun j hj => frozen_of_row w q.b _ cells elem hb)
  rw [hstore] at run
  have hlen' : (es.take (off + L) ++ nes ++ es.drop (off + L + nes.length)).length = es.length := by
    simp only [List.length_append, List.length_take, List.length_drop]; omega
  refine ⟨.value (.slice (some ⟨q.b, q.o + off * i.size, none⟩) (L + nes.length) c), _, ρ, ?_, r.write (cells' := (pre ++ (vs0.take ((off + L) * i.size) ++ news ++ vs0.drop ((off + L + nes.length) * i.size)) ++ post).toArray) hk rfl rfl hq hb ⟨rfl, hlen'⟩ ?_, .inl ⟨_, rfl, ?_⟩⟩
  · rw [run_builtin ho]
    rw [hlen] at hsv
    simp [builtin, hsv, run]
  · intro w' N' k hw'
    refine .inr ⟨q, _, elem, pre, _, post, rfl, hw', ?_, rfl, hpre, DRelE.keep k.data _ _ _ s2⟩
    have e3 := congrArg List.length hcl
    have e4 := hrel0.length
    simp only [List.length_append, Array.length_toList] at e3
    simp only [List.size_toArray, List.length_append, List.length_take, List.length_drop]
    have h3 : (off + L + nes.length) * i.size ≤ es.length * i.size := Nat.mul_le_mul_right _ hfit
    have h4 : (off + L) * i.size + nes.length * i.size = (off + L + nes.length) * i.size := by rw [Nat.add_mul (off + L)]
    omega
  · simp only [VRel, upd_same, RefRel, Option.getD_some, hq, hlen']
    refine ⟨by omega, _, _, rfl, hroomk, fun k hk => by cases hk; rfl, .inr rfl, hroom⟩

end Go.Own
