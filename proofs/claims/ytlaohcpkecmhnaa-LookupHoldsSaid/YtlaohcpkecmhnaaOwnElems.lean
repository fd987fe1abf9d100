/-
What reads as elements and lists of elements.
-/
import Derived.Test.YtlaohcpkecmhnaaOwnRead
import Derived.Test.YtlaohcpkecmhnaaOwnLists

set_option linter.all false

namespace Go.Sg
open Go Go.Own
open Go.Own (V D)

theorem wf_u64 {n : Int} (h : (Lit.int .u64 n).wf = true) : ∃ m : Nat, n = (m : Int) ∧ m < B := by
  have h' : 0 ≤ n ∧ n ≤ 18446744073709551615 := by simpa [Lit.wf, IntKind.min, IntKind.max, IntKind.signed, IntKind.bits] using h
  exact ⟨n.toNat, by omega, by simp only [B]; omega⟩

theorem limb_of (a b c d : Nat) (ha : a < B) (hb : b < B) (hc : c < B) (hd : d < B) : ∃ x, x < B ^ 4 ∧ limb 0 x = a ∧ limb 1 x = b ∧ limb 2 x = c ∧ limb 3 x = d := by
  refine ⟨a + B * (b + B * (c + B * d)), ?_, ?_, ?_, ?_, ?_⟩
  · simp only [B] at *; omega
  · unfold limb; simp only [B] at *; omega
  · unfold limb; simp only [B] at *; omega
  · unfold limb; simp only [B] at *; omega
  · unfold limb; simp only [B] at *; omega

section
variable {P : Program} {H : Type} {t e : TypeId}

theorem read_int {n : Nat} {k : IntKind} {d : DataW H} {y : D} (hu : P.underlying t = some (.int k)) (h : Rd P (n + 1) t d y.cells) (ha : y.isAgg = isRow P t) : ∃ m, d = .lit (.int k m) ∧ y = .int k m ∧ (Lit.int k m).wf = true := by
  unfold Rd at h
  unfold isRow at ha
  rw [hu] at h ha
  obtain ⟨m, h1, h2, h3⟩ := h
  rw [isAgg_cells ha] at h2
  exact ⟨m, h1, by simpa using h2, h3⟩

theorem read_elem {n : Nat} {d : DataW H} {y : D} (hu : P.underlying t = some (.array 4 e)) (he : P.underlying e = some (.int .u64)) (hc : P.cellsOf e = 1) (h : Rd P (n + 2) t d y.cells) (ha : y.isAgg = isRow P t) : ∃ x, x < B ^ 4 ∧ y = elem x := by
  unfold Rd at h
  unfold isRow at ha
  rw [hu] at h ha
  simp only at h ha
  obtain ⟨xs, _, h⟩ := h
  cases y with
  | agg ds =>
    simp only [D.cells] at h
    have step : ∀ (m : Nat) (xs : List (DataW H)) (ds : List D), RdL P (Rd P (n + 1)) (List.replicate (m + 1) e) xs ds → ∃ (w : Nat) (r : List D) (xs' : List (DataW H)), w < B ∧ ds = u w :: r ∧ RdL P (Rd P (n + 1)) (List.replicate m e) xs' r := by
      intro m xs ds h
      rw [List.replicate_succ] at h
      cases xs with
      | nil => simp [RdL] at h
      | cons x xs =>
        simp only [RdL] at h
        obtain ⟨d1, d2, rfl, _, h1, h2⟩ := h
        unfold Rd at h1
        rw [he] at h1
        obtain ⟨w, _, rfl, hw⟩ := h1
        obtain ⟨w', rfl, hw'⟩ := wf_u64 hw
        exact ⟨w', d2, xs, hw', rfl, h2⟩
    obtain ⟨a, r1, x1, ha', rfl, h1⟩ := step 3 xs ds h
    obtain ⟨b, r2, x2, hb', rfl, h2⟩ := step 2 _ _ h1
    obtain ⟨c, r3, x3, hc', rfl, h3⟩ := step 1 _ _ h2
    obtain ⟨d', r4, x4, hd', rfl, h4⟩ := step 0 _ _ h3
    have : r4 = [] := by
      cases x4 with
      | nil => simpa [RdL] using h4
      | cons _ _ => simp [RdL] at h4
    subst this
    obtain ⟨x, hx, e0, e1, e2, e3⟩ := limb_of a b c d' ha' hb' hc' hd'
    exact ⟨x, hx, by unfold elem; rw [e0, e1, e2, e3]⟩
  | _ => simp [D.isAgg] at ha

theorem read_elems {n : Nat} {a : TypeId} {d : DataW H} {y : D} (ht : P.underlying t = some (.slice a)) (hu : P.underlying a = some (.array 4 e)) (he : P.underlying e = some (.int .u64)) (hc : P.cellsOf e = 1) (hca : P.cellsOf a = 4) (h : Rd P (n + 3) t d y.cells) (ha : y.isAgg = isRow P t) :
    ∃ xs, Nums xs ∧ y = .sl 4 (es xs) ∧ (d = .nil ∧ xs = [] ∨ ∃ l sp, d = .slice l sp ∧ xs.length = l.length) := by
  unfold Rd at h
  unfold isRow at ha
  rw [ht] at h ha
  simp only at h ha
  have hy := isAgg_cells ha
  rw [hy, hca] at h
  have rows : ∀ (l : List (DataW H)) (ys : List D), RdE P (Rd P (n + 2)) a l ys → ∃ xs, Nums xs ∧ ys = es xs := by
    intro l
    induction l with
    | nil => intro ys h; simp only [RdE] at h; subst h; exact ⟨[], fun x hx => by simp at hx, rfl⟩
    | cons x l ih =>
      intro ys h
      simp only [RdE] at h
      obtain ⟨y, r, rfl, h1, h2, h3⟩ := h
      obtain ⟨m, hm, rfl⟩ := read_elem hu he hc h1 h2
      obtain ⟨xs, hn, rfl⟩ := ih r h3
      exact ⟨m :: xs, fun z hz => by rcases List.mem_cons.1 hz with rfl | hz; exact hm; exact hn z hz, rfl⟩
  rcases h with ⟨h1, h2⟩ | ⟨l, sp, ys, h1, h2, h3, h4⟩
  · exact ⟨[], fun x hx => by simp at hx, by simpa [es] using h2, .inl ⟨h1, rfl⟩⟩
  · obtain ⟨xs, hn, rfl⟩ := rows l ys h4
    exact ⟨xs, hn, by simpa using h2, .inr ⟨l, sp, h1, by rw [← h3, es_len]⟩⟩

theorem fits_of {a : TypeId} {d : DataW H} {xs : List Nat} (ht : P.underlying t = some (.slice a)) (hb : P.bytesOf a = 32) (h : d = .nil ∧ xs = [] ∨ ∃ l sp, d = .slice l sp ∧ xs.length = l.length) (hw : (DataW.weights P t d).all (· ≤ reachBytes) = true) : Fits xs := by
  unfold Fits
  rcases h with ⟨_, rfl⟩ | ⟨l, sp, rfl, hl⟩
  · simp
  · rw [DataW.weights, ht] at hw
    simp only [List.all_cons, Bool.and_eq_true, decide_eq_true_eq, hb] at hw
    have := hw.1
    unfold reachBytes at this
    rw [hl]
    omega

theorem weights_cons {ts : List TypeId} {d : DataW H} {ds : List (DataW H)} (h : (DataW.weightsEach P (t :: ts) (d :: ds)).all (· ≤ reachBytes) = true) : (DataW.weights P t d).all (· ≤ reachBytes) = true ∧ (DataW.weightsEach P ts ds).all (· ≤ reachBytes) = true := by
  rw [DataW.weightsEach, List.all_append, Bool.and_eq_true] at h
  exact h
end

end Go.Sg
