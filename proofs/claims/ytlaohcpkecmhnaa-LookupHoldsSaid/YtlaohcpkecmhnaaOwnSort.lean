/-
The library's sort of elements by lookup.compare. The first theorem is the kit's laying, written out by its own command.
-/
import Derived.Shelf.SlSortCmp.NoneTotal
import Derived.Test.YtlaohcpkecmhnaaOwnSlices

set_option linter.all false

namespace Go.Proofs
open Go.Shelf
def Sg.sortElem_ren : Go.Shelf.Ren := ⟨fun | 6 => 36 | 15 => 47 | 14 => 46 | 28 => 62 | 29 => 63 | 20 => 54 | 21 => 55 | 22 => 56 | 23 => 57 | 24 => 58 | 25 => 59 | 26 => 60 | 27 => 61 | 46 => 67 | 47 => 68 | 48 => 69 | 49 => 70 | 50 => 71 | 57 => 73 | n => n, fun | 22 => 22 | 24 => 25 | 25 => 54 | 3 => 3 | 39 => 27 | 0 => 0 | 53 => 94 | 55 => 23 | 4 => 4 | 46 => 88 | 45 => 87 | 50 => 52 | 5 => 5 | 9 => 9 | 66 => 101 | 70 => 105 | 76 => 108 | 77 => 109 | n => n, fun | n => n⟩
theorem Sg.sortElem : Go.Proofs.SlLaysF0.n6 Try.prog Sg.sortElem_ren := {
  mixed := by kernel_rfl
  f6 := ⟨"slices.SortFunc[[]sigil/api.Elem,sigil/api.Elem]", by decide, Try.func36.trans (congrArg some (by kernel_rfl))⟩
  f14 := ⟨"slices.pdqsortCmpFunc[sigil/api.Elem]", by decide, Try.func46.trans (congrArg some (by kernel_rfl))⟩
  f15 := Try.func47.trans (congrArg some (by kernel_rfl))
  f20 := ⟨"slices.insertionSortCmpFunc[sigil/api.Elem]", by decide, Try.func54.trans (congrArg some (by kernel_rfl))⟩
  f21 := ⟨"slices.heapSortCmpFunc[sigil/api.Elem]", by decide, Try.func55.trans (congrArg some (by kernel_rfl))⟩
  f22 := ⟨"slices.breakPatternsCmpFunc[sigil/api.Elem]", by decide, Try.func56.trans (congrArg some (by kernel_rfl))⟩
  f23 := ⟨"slices.choosePivotCmpFunc[sigil/api.Elem]", by decide, Try.func57.trans (congrArg some (by kernel_rfl))⟩
  f24 := ⟨"slices.reverseRangeCmpFunc[sigil/api.Elem]", by decide, Try.func58.trans (congrArg some (by kernel_rfl))⟩
  f25 := ⟨"slices.partialInsertionSortCmpFunc[sigil/api.Elem]", by decide, Try.func59.trans (congrArg some (by kernel_rfl))⟩
  f26 := ⟨"slices.partitionEqualCmpFunc[sigil/api.Elem]", by decide, Try.func60.trans (congrArg some (by kernel_rfl))⟩
  f27 := ⟨"slices.partitionCmpFunc[sigil/api.Elem]", by decide, Try.func61.trans (congrArg some (by kernel_rfl))⟩
  f28 := Try.func62.trans (congrArg some (by kernel_rfl))
  f29 := Try.func63.trans (congrArg some (by kernel_rfl))
  f46 := ⟨"slices.siftDownCmpFunc[sigil/api.Elem]", by decide, Try.func67.trans (congrArg some (by kernel_rfl))⟩
  f47 := Try.func68.trans (congrArg some (by kernel_rfl))
  f48 := Try.func69.trans (congrArg some (by kernel_rfl))
  f49 := ⟨"slices.medianAdjacentCmpFunc[sigil/api.Elem]", by decide, Try.func70.trans (congrArg some (by kernel_rfl))⟩
  f50 := ⟨"slices.medianCmpFunc[sigil/api.Elem]", by decide, Try.func71.trans (congrArg some (by kernel_rfl))⟩
  f57 := ⟨"slices.order2CmpFunc[sigil/api.Elem]", by decide, Try.func73.trans (congrArg some (by kernel_rfl))⟩
  t0 := Try.underlying0
  a0 := Try.isAgg0
  z0 := Try.sizeOf0
  v0 := Try.zeroValue0
  t3 := Try.underlying3
  a3 := Try.isAgg3
  z3 := Try.sizeOf3
  v3 := Try.zeroValue3
  t4 := Try.underlying4
  a4 := Try.isAgg4
  z4 := Try.sizeOf4
  v4 := Try.zeroValue4
  t5 := Try.underlying5
  a5 := Try.isAgg5
  z5 := Try.sizeOf5
  v5 := Try.zeroValue5
  t9 := Try.underlying9
  a9 := Try.isAgg9
  z9 := Try.sizeOf9
  v9 := Try.zeroValue9
  t22 := Try.underlying22
  a22 := Try.isAgg22
  z22 := Try.sizeOf22
  v22 := Try.zeroValue22
  t25 := Try.underlying54
  a25 := Try.isAgg54
  z25 := Try.sizeOf54
  v25 := Try.zeroValue54
  t39 := Try.underlying27
  a39 := Try.isAgg27
  z39 := Try.sizeOf27
  v39 := Try.zeroValue27
  t45 := Try.underlying87
  a45 := Try.isAgg87
  z45 := Try.sizeOf87
  v45 := Try.zeroValue87
  t46 := Try.underlying88
  a46 := Try.isAgg88
  z46 := Try.sizeOf88
  v46 := Try.zeroValue88
  t50 := Try.underlying52
  a50 := Try.isAgg52
  z50 := Try.sizeOf52
  v50 := Try.zeroValue52
  t53 := Try.underlying94
  a53 := Try.isAgg94
  z53 := Try.sizeOf94
  v53 := Try.zeroValue94
  t55 := Try.underlying23
  a55 := Try.isAgg23
  z55 := Try.sizeOf23
  v55 := Try.zeroValue23
  t66 := Try.underlying101
  a66 := Try.isAgg101
  z66 := Try.sizeOf101
  v66 := Try.zeroValue101
  t70 := Try.underlying105
  a70 := Try.isAgg105
  z70 := Try.sizeOf105
  v70 := Try.zeroValue105
  t76 := Try.underlying108
  a76 := Try.isAgg108
  z76 := Try.sizeOf108
  v76 := Try.zeroValue108
  t77 := Try.underlying109
  a77 := Try.isAgg109
  z77 := Try.sizeOf109
  v77 := Try.zeroValue109 }

end Go.Proofs

namespace Go.Sg
open Go Go.Own Go.Sort
open Go.Own (V D Wy)

/-- Numbers of 256 bits. -/
abbrev E4 := { x : Nat // x < B ^ 4 }
instance : Inhabited E4 := ⟨⟨0, by decide⟩⟩
def encE (x : E4) : List Value := [.int .u64 (limb 0 x.1), .int .u64 (limb 1 x.1), .int .u64 (limb 2 x.1), .int .u64 (limb 3 x.1)]
def cmpN (x y : Nat) : Int := if x < y then -1 else if y < x then 1 else 0
def cfE (x y : E4) : Int := cmpN x.1 y.1

theorem ltE (x y : E4) : Go.Proofs.ltOf cfE x y = decide (x.1 < y.1) := by
  unfold Go.Proofs.ltOf cfE cmpN
  by_cases h1 : x.1 < y.1
  · simp [h1]
  · by_cases h2 : y.1 < x.1 <;> simp [h1, h2]

theorem swoE : SWO (Go.Proofs.ltOf cfE) where
  irrefl x := by rw [ltE]; simp
  trans x y z h1 h2 := by rw [ltE] at *; simp at *; omega
  ntrans x y z h1 h2 := by rw [ltE] at *; simp at *; omega

theorem compare_ok (a b : Nat) (ha : a < B ^ 4) (hb : b < B ^ 4) : FnOk PP n_lookup_compare [ve a, ve b] [] (.ret (vi (cmpN a b))) [] := by
  unfold cmpN
  by_cases h1 : a < b
  · simp only [h1, if_true]
    exact compare_lt a b ha hb h1
  · by_cases h2 : b < a
    · simp only [h1, h2, if_true, if_false]
      exact compare_gt a b ha hb h2
    · simp only [h1, h2, if_false]
      obtain rfl : a = b := by omega
      exact compare_eq a ha

theorem t_cmp (a b : Nat) (h : a < b) : V.d (.bool (decide (cmpN a b < ((0 : Nat) : Int)))) = V.d (.bool true) := by unfold cmpN; rw [if_pos h]; rfl
theorem f_cmp (a b : Nat) (h : b ≤ a) : V.d (.bool (decide (cmpN a b < ((0 : Nat) : Int)))) = V.d (.bool false) := by
  unfold cmpN; rw [if_neg (by omega)]
  split <;> rfl
theorem t_cmp0 (a b : Nat) (h : a = b) : V.d (.bool (cmpN a b == ((0 : Nat) : Int))) = V.d (.bool true) := by subst h; unfold cmpN; simp
theorem f_cmp0 (a b : Nat) (h : a ≠ b) : V.d (.bool (cmpN a b == ((0 : Nat) : Int))) = V.d (.bool false) := by
  unfold cmpN
  split
  · rfl
  · rw [if_pos (by omega)]; rfl

theorem world_grown {w w' : World} (hs : w.heap.size ≤ w'.heap.size) (hf : ∀ b, b < w.heap.size → w'.heap[b]? = w.heap[b]?) (ho : w'.os = w.os) (ht : w'.tape = w.tape) (hu : w'.output = w.output) (hd : w.drawn ≤ w'.drawn) :
    w' = grow (w.drewN (w'.drawn - w.drawn)) (w'.heap.extract w.heap.size w'.heap.size) := by
  obtain ⟨heap, tape, drawn, os, output⟩ := w
  obtain ⟨heap', tape', drawn', os', output'⟩ := w'
  simp only at *
  subst ho ht hu
  unfold grow World.drewN
  simp only [World.mk.injEq, and_true, true_and]
  refine ⟨?_, by omega⟩
  apply Array.ext_getElem?
  intro k
  rw [Array.getElem?_append]
  split
  · rename_i hk; exact hf k hk
  · rename_i hk
    rw [Array.getElem?_extract]
    split
    · rename_i h2
      congr 1; omega
    · rename_i h2
      rw [Array.getElem?_eq_none (by omega)]

theorem lies_nil {w : World} {N : Nat → Prop} {ρ : Own.Ren} : Lies w N ρ (lk []) :=
  ⟨fun id k h => by simp [lk] at h, fun id id' q q' h => by simp [lk, live] at h, fun id q h => by simp [lk, live] at h⟩
theorem mine_nil {ρ : Own.Ren} {b : Nat} : ¬ Mine ρ (lk []) b := fun ⟨id, q, h, _⟩ => by simp [lk, live] at h

theorem encE_rel (x : Nat) (hx : x < B ^ 4) (w : World) (N : Nat → Prop) : DRel w N (elem x) (.agg (encE ⟨x, hx⟩).toArray) := by
  simp only [elem, u, DRel]
  exact ⟨_, rfl, by simp [encE, DRelL, DRel]⟩

theorem cmpLaysE (blk off size : Nat) (w : World) : Go.Proofs.CmpLays PP n_lookup_compare #[] encE 4 cfE blk off size w := by
  intro m os dk hs x y
  generalize Go.Proofs.sortWorldK encE 4 w blk off m dk os = W
  have c := (compare_ok x.1 y.1 x.2 y.2).2 W (fun _ => False) (fun _ => none) #[.agg (encE x).toArray, .agg (encE y).toArray] (fun _ h => h.elim) (fun _ h => h.elim) ?_ lies_nil
  · refine c.mono ?_
    rintro e w' ⟨ρ', ho, hb⟩
    cases e with
    | returned v =>
      simp only [OutRel, vi, i, VRel, DRel] at ho
      subst ho
      exact ⟨rfl, _, _, world_grown hb.size (fun b hb1 => hb.frame b hb1 mine_nil) hb.os hb.tape hb.output hb.drawn⟩
    | _ => exact ho.elim
  · rw [VRelL.cons_iff]
    refine ⟨_, _, rfl, ?_, ?_⟩
    · simp only [ve, VRel]; exact encE_rel x.1 x.2 _ _
    · rw [VRelL.cons_iff]
      refine ⟨_, _, rfl, ?_, by rw [VRelL.nil_iff]⟩
      simp only [ve, VRel]; exact encE_rel y.1 y.2 _ _

theorem range_enc (l : List Value) : ∀ k, l.length = k → (List.range k).map (fun j => l[j]!) = l := by
  intro k hk
  apply List.ext_getElem?
  intro j
  rw [List.getElem?_map]
  by_cases h : j < k
  · rw [List.getElem?_range h, Option.map_some, List.getElem?_eq_getElem (by omega)]
    simp [getElem!_pos l j (by omega)]
  · rw [List.getElem?_eq_none (by simp; omega), List.getElem?_eq_none (by omega)]; rfl

theorem flatL {α : Type} [Inhabited α] (enc : α → List Value) (k : Nat) (hk0 : 0 < k) (hk : ∀ x, (enc x).length = k) : ∀ d : List α, (List.range (d.length * k)).map (fun t => (enc d[t / k]!)[t % k]!) = d.flatMap enc
  | [] => by simp
  | x :: d => by
    rw [List.length_cons, show (d.length + 1) * k = k + d.length * k by rw [Nat.add_mul, Nat.one_mul, Nat.add_comm], List.range_add, List.map_append, List.map_map, List.flatMap_cons, ← flatL enc k hk0 hk d]
    refine congr (congrArg _ ?_) ?_
    · refine Eq.trans (List.map_congr_left fun t ht => ?_) (range_enc (enc x) k (hk x))
      have ht := List.mem_range.1 ht
      rw [Nat.div_eq_of_lt ht, Nat.mod_eq_of_lt ht]
      rfl
    · refine List.map_congr_left fun t _ => ?_
      show (enc (x :: d)[(k + t) / k]!)[(k + t) % k]! = _
      rw [Nat.add_div_left _ hk0, Nat.add_mod_left]
      rfl

theorem flatE {α : Type} [Inhabited α] (enc : α → List Value) (k : Nat) (hk0 : 0 < k) (hk : ∀ x, (enc x).length = k) (d : List α) : (flatK enc k d.toArray).toList = d.flatMap enc := by
  rw [← flatL enc k hk0 hk d]
  unfold flatK
  simp

theorem rel_flat (w : World) (N : Nat → Prop) : ∀ (d : List E4) (vs : List Value), vs = d.flatMap encE → DRelE w N 4 (es (d.map (·.1))) vs
  | [], vs, h => by subst h; simp [es, DRelE]
  | x :: d, vs, h => by
    subst h
    simp only [es, List.map_cons, DRelE.cons_iff, List.flatMap_cons]
    exact ⟨.agg (encE x).toArray, d.flatMap encE, rfl, rfl, encE_rel x.1 x.2 w N, rel_flat w N d _ rfl⟩

theorem rel_flat' {w : World} {N : Nat → Prop} : ∀ {d : List E4} {vs : List Value}, DRelE w N 4 (es (d.map (·.1))) vs → vs = d.flatMap encE
  | [], vs, h => by simpa [es, DRelE] using h
  | x :: d, vs, h => by
    simp only [es, List.map_cons, DRelE.cons_iff] at h
    obtain ⟨v, r, rfl, hs, h1, h2⟩ := h
    rw [rel_flat' h2, List.flatMap_cons]
    refine congrArg (· ++ _) ?_
    simp only [elem, u, DRel] at h1
    obtain ⟨cs, rfl, h1⟩ := h1
    simp only [DRelL, DRel] at h1
    obtain ⟨_, _, e1, rfl, _, _, e2, rfl, _, _, e3, rfl, _, _, e4, rfl, rfl⟩ := h1
    subst e4 e3 e2
    exact e1

def sortF (xs : List Nat) : List Nat := xs.mergeSort (fun x y => decide (x ≤ y))

def toE (xs : List Nat) (hx : Nums xs) : List E4 := xs.attachWith (fun x => x < B ^ 4) hx
theorem toE_val (xs : List Nat) (hx : Nums xs) : (toE xs hx).map (·.1) = xs := by unfold toE; exact List.attachWith_map_subtype_val hx
theorem toE_len (xs : List Nat) (hx : Nums xs) : (toE xs hx).length = xs.length := by unfold toE; exact List.length_attachWith

theorem sortF_eq (xs : List Nat) (hx : Nums xs) : (((toE xs hx).mergeSort fun x y => !(Go.Proofs.ltOf cfE y x)).map (·.1)) = sortF xs := by
  unfold sortF
  conv => rhs; rw [← toE_val xs hx]
  refine List.map_mergeSort fun a _ b _ => ?_
  rw [ltE]
  by_cases h : a.1 ≤ b.1
  · simp [h]
  · simp [h]; omega

theorem sortF_len (xs : List Nat) : (sortF xs).length = xs.length := by unfold sortF; exact List.length_mergeSort xs

theorem lk_one (k : Nat) (b : Blk) (id : Nat) : lk [(k, b)] id = if id = k then some b else none := by
  simp only [lk]
  by_cases h : id = k
  · subst h; simp
  · rw [if_neg h]
    have : Nat.beq k id = false := by
      cases hb : Nat.beq k id with
      | false => rfl
      | true => exact absurd (beq_eq hb).symm h
    rw [this]

/-- One block that is written in its place. -/
theorem behind_one {w w' : World} {N0 : Nat → Prop} {ρ : Own.Ren} {k : Nat} {b b' : Blk} {q : Pl} (hq : ρ k = some q) (hlies : Lies w (fun x => N0 x ∨ Mine ρ (lk [(k, b)]) x) ρ (lk [(k, b)])) (hl : live (some b) = true) (hle : BlkLe (some b) (some b'))
    (hsz : w.heap.size ≤ w'.heap.size) (hfr : ∀ x, x < w.heap.size → x ≠ q.b → w'.heap[x]? = w.heap[x]?) (ho : w'.os = w.os) (ht : w'.tape = w.tape) (hu : w'.output = w.output) (hd : w.drawn ≤ w'.drawn)
    (hb : ∀ N, BlkRel w' N ρ (lk [(k, b')]) (some q) b') : Behind w w' N0 ρ ρ (lk [(k, b)]) (lk [(k, b')]) := by
  have only : ∀ (c : Blk) id, live (lk [(k, c)] id) = true → id = k := by
    intro c id h
    rw [lk_one] at h
    by_cases e : id = k
    · exact e
    · rw [if_neg e] at h; simp [live] at h
  have mine : Mine ρ (lk [(k, b)]) q.b := ⟨k, q, by rw [lk_one, if_pos rfl]; exact hl, hq, rfl⟩
  have hlt : q.b < w.heap.size := hlies.lt k q (by rw [lk_one, if_pos rfl]; exact hl) hq
  refine ⟨⟨fun id c hc => ?_, fun a a' p p' h1 h2 _ _ _ => ?_, fun id p h1 h2 => ?_⟩, fun id h1 h2 => ⟨rfl, ?_⟩, fun id p h1 h2 => ?_, hsz, fun x hx hm => hfr x hx (fun e => hm (e ▸ mine)), ho, ht, hu, hd⟩
  · rw [lk_one] at hc
    by_cases e : id = k
    · subst e
      rw [if_pos rfl] at hc
      obtain rfl := Option.some.inj hc
      rw [hq]
      exact hb _
    · rw [if_neg e] at hc; cases hc
  · rw [only _ _ h1, only _ _ h2]
  · have := only _ _ h1
    subst this
    rw [hq] at h2
    obtain rfl := Option.some.inj h2
    omega
  · have := only _ _ h1
    subst this
    rw [lk_one, if_pos rfl, lk_one, if_pos rfl]
    exact hle
  · have := only _ _ h1
    subst this
    rw [hq] at h2
    obtain rfl := Option.some.inj h2
    exact .inr mine

theorem putCells_mid (pre F post : List Value) (vs : List Value) (hv : vs.length = F.length) : (putCells id pre.length F.toArray (pre ++ vs ++ post).toArray).toList = pre ++ F ++ post := by
  apply List.ext_getElem?
  intro j
  unfold putCells
  simp only [List.size_toArray, Array.toList_mapIdx, List.getElem?_mapIdx]
  by_cases h1 : j < pre.length
  · rw [List.append_assoc, List.append_assoc, List.getElem?_append_left h1, List.getElem?_append_left h1, List.getElem?_eq_getElem h1, Option.map_some, if_neg (by omega)]
  · by_cases h2 : j < pre.length + F.length
    · have hj : j - pre.length < vs.length := by omega
      have hj2 : j - pre.length < F.length := by omega
      have l1 : (pre ++ vs ++ post)[j]? = some (vs[j - pre.length]'hj) := by
        rw [List.append_assoc, List.getElem?_append_right (by omega), List.getElem?_append_left hj, List.getElem?_eq_getElem hj]
      have l2 : (pre ++ F ++ post)[j]? = some (F[j - pre.length]'hj2) := by
        rw [List.append_assoc, List.getElem?_append_right (by omega), List.getElem?_append_left hj2, List.getElem?_eq_getElem hj2]
      rw [l1, l2, Option.map_some, if_pos (by omega)]
      simp [hj2]
    · rw [List.append_assoc, List.append_assoc, List.getElem?_append_right (by omega), List.getElem?_append_right (by omega), List.getElem?_append_right (by omega), List.getElem?_append_right (by omega), hv]
      cases hp : post[j - pre.length - F.length]? with
      | none => rfl
      | some x => rw [Option.map_some, if_neg (by omega)]

theorem Sort_ok (xs : List Nat) (hx : Nums xs) (hl : xs.length < 1000000) (cap : Option Nat) : FnOk PP n_slices_SortFunc [.ref 100000 0 none cap, .d (.fn (.func n_lookup_compare) [] [])] [(100000, .row 4 (es xs))] (.ret (.tup [])) [(100000, .row 4 (es (sortF xs)))] := by
  have henter : Go.Proofs.Enters PP n_slices_SortFunc := Go.Proofs.enters_of at_slices_SortFunc (by kernel_rfl) rfl
  refine ⟨henter, fun w N0 ρ vs hlow hap hargs hlies => ?_⟩
  rw [VRelL.cons_iff] at hargs
  obtain ⟨v0, r, hv, h0, h1⟩ := hargs
  rw [VRelL.cons_iff] at h1
  obtain ⟨v1, r1, rfl, h1, h2⟩ := h1
  rw [VRelL.nil_iff] at h2
  subst h2
  obtain rfl : vs = #[v0, v1] := by cases vs; simp at hv; rw [hv]
  simp only [VRel, DRel, DRelL] at h1
  obtain ⟨fs, cs, rfl, hfs, hcs⟩ := h1
  obtain rfl : fs = #[] := by cases fs; simp at hfs; rw [hfs]
  obtain rfl : cs = #[] := by cases cs; simp at hcs; rw [hcs]
  simp only [VRel, lk_one, if_true, RefRel, Option.getD_none, Nat.sub_zero] at h0
  obtain ⟨_, h0⟩ := h0
  have hblk := hlies.heap 100000 (.row 4 (es xs)) (by rw [lk_one, if_pos rfl])
  have nothing : ∀ (a : Option Addr) (c : Nat), xs = [] → v0 = .slice a 0 c → Calls PP n_slices_SortFunc #[v0, .func (.func n_lookup_compare) #[] #[]] w fun e w' => ∃ ρ', OutRel w' (fun b => N0 b ∨ Mine ρ' (lk [(100000, .row 4 (es (sortF xs)))]) b) ρ' (lk [(100000, .row 4 (es (sortF xs)))]) (.ret (.tup [])) e ∧ Behind w w' N0 ρ ρ' (lk [(100000, .row 4 (es xs))]) (lk [(100000, .row 4 (es (sortF xs)))]) := by
    rintro a c rfl rfl
    refine (Go.Proofs.AnyF.slices_SortFunc_none { Go.Proofs.Sg.sortElem with } a c (.func (.func n_lookup_compare) #[] #[]) w).mono ?_
    rintro e w' ⟨rfl, rfl⟩
    have e0 : sortF [] = [] := by simp [sortF]
    rw [e0]
    exact ⟨ρ, by simp [OutRel, VRel, VRelL], hlies, fun id _ _ => ⟨rfl, BlkLe.refl _⟩, fun id q hl hq => .inr ⟨id, q, hl, hq, rfl⟩, Nat.le_refl _, fun _ _ _ => rfl, rfl, rfl, rfl, Nat.le_refl _⟩
  cases hq : ρ 100000 with
  | none =>
    rw [hq] at h0 hblk
    obtain ⟨⟨a, hv0⟩, h3, _⟩ := h0
    rw [es_len] at h3
    exact nothing a 0 (List.eq_nil_of_length_eq_zero h3) hv0
  | some q =>
    rw [hq] at h0 hblk
    obtain ⟨a, c, hv0, hlc, _, had, hfit⟩ := h0
    rw [es_len] at hv0 hlc
    by_cases hx0 : xs = []
    · subst hx0
      exact nothing a c rfl hv0
    have hpos : 0 < xs.length := List.length_pos_iff.2 hx0
    have had : a = some ⟨q.b, q.o + 0 * 4, none⟩ := by
      rcases had with h | h
      · omega
      · exact h
    subst had
    rcases hblk with ⟨hbad, _⟩ | ⟨q', cells, elem, pre, vs, post, hq', hb, hsize, hcl, hpre, hrel⟩
    · cases hbad
    obtain rfl := Option.some.inj hq'
    have hvs : vs = (toE xs hx).flatMap encE := rel_flat' (by rw [toE_val]; exact hrel)
    have hlt : q.b < w.heap.size := (Array.getElem?_eq_some_iff.1 hb).1
    have hvl := hrel.length
    rw [es_len] at hvl
    have hF := flatE encE 4 (by decide) (fun _ => rfl) (toE xs hx)
    rw [← hvs] at hF
    have hcl' : cells = (pre ++ vs ++ post).toArray := by rw [← hcl]
    have hcells : ∀ j, j < vs.length → w.cell? ⟨q.b, q.o + j, none⟩ = some vs[j]! ∧ w.frozen? ⟨q.b, q.o + j, none⟩ = false := by
      intro j hj
      refine ⟨?_, frozen_of_row w q.b _ cells elem hb⟩
      rw [cell_of_row w q.b _ cells elem (0, 0) hb, hcl']
      simp only [List.getElem?_toArray]
      rw [List.append_assoc, List.getElem?_append_right (by omega), List.getElem?_append_left (by omega), show q.o + j - pre.length = j by omega, List.getElem?_eq_getElem hj]
      simp [getElem!_pos vs j hj]
    have hsd : (toE xs hx).toArray.size = xs.length := by rw [List.size_toArray, toE_len]
    have hH : HoldsK encE 4 w q.b (q.o + 0 * 4) (toE xs hx).toArray := by
      intro j hj
      rw [size_flatK, List.size_toArray, toE_len] at hj
      have := hcells j (by omega)
      rw [Nat.zero_mul, Nat.add_zero]
      refine ⟨?_, this.2⟩
      rw [this.1, ← hF, getElem!_pos _ j (by rw [Array.length_toList, size_flatK, hsd]; exact hj), getElem!_pos _ j (by rw [size_flatK, hsd]; exact hj)]
      simp
    have t := Go.Proofs.AnyQ.slices_SortFunc_total Go.Proofs.Sg.sortElem 4 Go.Proofs.Try.isAgg25 Go.Proofs.Try.sizeOf25 encE (fun _ => rfl) (fun x v hv => by simp [encE] at hv; rcases hv with rfl | rfl | rfl | rfl <;> rfl) cfE swoE n_lookup_compare #[] q.b (q.o + 0 * 4) c (toE xs hx).toArray w
      (Go.Proofs.enters_of at_lookup_compare (by kernel_rfl) rfl) (cmpLaysE _ _ _ _) hH hlt (by rw [hsd]; omega) (fun x y h1 h2 => by rw [ltE] at h1 h2; simp at h1 h2; exact Subtype.ext (by omega))
    rw [hsd] at t
    rw [hv0]
    refine Calls.mono t ?_
    rintro e w' ⟨rfl, n, os, rfl⟩
    refine ⟨ρ, by simp [OutRel, VRel, VRelL], ?_⟩
    generalize hd' : ((toE xs hx).toArray.toList.mergeSort fun x y => !(Go.Proofs.ltOf cfE y x)) = d'
    have hd2 : d'.map (·.1) = sortF xs := by rw [← hd']; exact sortF_eq xs hx
    have hF' := flatE encE 4 (by decide) (fun _ => rfl) d'
    have hdl : d'.length = xs.length := by rw [← sortF_len xs, ← hd2, List.length_map]
    have hF2 : flatK encE 4 d'.toArray = (d'.flatMap encE).toArray := by rw [← hF']
    have hrel' := rel_flat w (fun _ => False) d' _ rfl
    have hFl : (d'.flatMap encE).length = vs.length := by
      have := (rel_flat w (fun _ => False) d' _ rfl).length
      rw [es_len, List.length_map] at this
      omega
    have hheap : ∀ x, x < w.heap.size → (Go.Proofs.sortWorldK encE 4 w q.b (q.o + 0 * 4) n d'.toArray os).heap[x]? = if x = q.b then some (.cells (putCells id q.o (d'.flatMap encE).toArray cells) elem (0, 0)) else w.heap[x]? := by
      intro x hx1
      unfold Go.Proofs.sortWorldK putRowK putRow mapBlock grow Go.Sort.ahead
      simp only [hF2, Nat.zero_mul, Nat.add_zero]
      rw [Array.getElem?_append_left (by simpa using hx1), Array.getElem?_modify]
      by_cases e : q.b = x
      · subst e
        rw [if_pos rfl, if_pos rfl, hb]
        rfl
      · rw [if_neg e, if_neg (Ne.symm e)]
    refine behind_one hq hlies rfl ⟨rfl, by rw [es_len, es_len, sortF_len]⟩ ?_ (fun x hx1 hne => by rw [hheap x hx1, if_neg hne]) rfl rfl rfl (Nat.le_add_right _ _) (fun N => ?_)
    · unfold Go.Proofs.sortWorldK putRowK putRow mapBlock grow Go.Sort.ahead
      simp
    · refine .inr ⟨q, putCells id q.o (d'.flatMap encE).toArray cells, elem, pre, d'.flatMap encE, post, rfl, by rw [hheap _ hlt, if_pos rfl], ?_, ?_, hpre, ?_⟩
      · rw [← hsize]; simp [putCells]
      · rw [hcl', ← hpre]
        exact putCells_mid pre _ post vs (by rw [hFl])
      · rw [← hd2]
        exact rel_flat _ _ d' _ rfl

end Go.Sg
