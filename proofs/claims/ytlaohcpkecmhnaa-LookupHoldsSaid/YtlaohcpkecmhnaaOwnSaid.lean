/-
What is proved: the given statement Rows.LookupHoldsSaid, that is: at every input that fits, the call of sigillaw17.LookupHolds returns true and leaves its arguments as they were.
Conditions: none beyond those that the given statement itself names.
-/
import Derived.Test.YtlaohcpkecmhnaaOwnLaw3
import Derived.Test.YtlaohcpkecmhnaaOwnElems
import Derived.Test.YtlaohcpkecmhnaaRows
import Derived.SizedLaws
import Derived.JoinedOf
import Derived.ProofKit

set_option linter.all false

namespace Go.Proofs.Ytlaohcpkecmhnaa.lookupHolds
open Go.ChangeShapes Go.WideShapes Go.ChangeAt Go.RowKit
open Go.Own Go.Sg
open Go.Own (V D)

theorem own : ownKnob Try.prog.godebug = none := by kernel_rfl

set_option maxRecDepth 100000 in
theorem read {H : Type} {ds : List (DataW H)} {ys : List D} (h : RdA Try.prog 4 Try.f3.params.toList ds ys) (hw : (DataW.weightsEach Try.prog (Try.f3.params.toList ++ []) (ds ++ [])).all (· ≤ reachBytes) = true) :
    FnOk PP 3 (ys.map V.d) [] (.ret (.d (.bool true))) [] := by
  have hp : Try.f3.params.toList = [3, 3, 22, 22, 25, 25, 22] := by kernel_rfl
  rw [List.append_nil, List.append_nil] at hw
  rw [hp] at h hw
  have u3 : Try.prog.underlying 3 = some (.int .i64) := Try.underlying3
  have u22 : Try.prog.underlying 22 = some (.slice 25) := by kernel_rfl
  have u25 : Try.prog.underlying 25 = some (.array 4 23) := by kernel_rfl
  have u5 : Try.prog.underlying 23 = some (.int .u64) := by kernel_rfl
  have c5 : Try.prog.cellsOf 23 = 1 := by kernel_rfl
  have c25 : Try.prog.cellsOf 25 = 4 := by kernel_rfl
  have b25 : Try.prog.bytesOf 25 = 32 := by kernel_rfl
  obtain ⟨d1, ds, y1, r, rfl, rfl, h1, a1, h⟩ := rda_cons h
  obtain ⟨d2, ds, y2, r, rfl, rfl, h2, a2, h⟩ := rda_cons h
  obtain ⟨d3, ds, y3, r, rfl, rfl, h3, a3, h⟩ := rda_cons h
  obtain ⟨d4, ds, y4, r, rfl, rfl, h4, a4, h⟩ := rda_cons h
  obtain ⟨d5, ds, y5, r, rfl, rfl, h5, a5, h⟩ := rda_cons h
  obtain ⟨d6, ds, y6, r, rfl, rfl, h6, a6, h⟩ := rda_cons h
  obtain ⟨d7, ds, y7, r, rfl, rfl, h7, a7, h⟩ := rda_cons h
  obtain ⟨rfl, rfl⟩ := rda_nil h
  obtain ⟨_, hw⟩ := weights_cons hw
  obtain ⟨_, hw⟩ := weights_cons hw
  obtain ⟨w3, hw⟩ := weights_cons hw
  obtain ⟨w4, hw⟩ := weights_cons hw
  obtain ⟨_, hw⟩ := weights_cons hw
  obtain ⟨_, hw⟩ := weights_cons hw
  obtain ⟨w7, _⟩ := weights_cons hw
  obtain ⟨s, _, rfl, _⟩ := read_int u3 h1 a1
  obtain ⟨k, _, rfl, _⟩ := read_int u3 h2 a2
  obtain ⟨xs, nx, rfl, l3⟩ := read_elems u22 u25 u5 c5 c25 h3 a3
  obtain ⟨ts, nt, rfl, l4⟩ := read_elems u22 u25 u5 c5 c25 h4 a4
  obtain ⟨be, hbe, rfl⟩ := read_elem u25 u5 c5 h5 a5
  obtain ⟨ga, hga, rfl⟩ := read_elem u25 u5 c5 h6 a6
  obtain ⟨cs, nc, rfl, l7⟩ := read_elems u22 u25 u5 c5 c25 h7 a7
  exact LookupHolds_ok s k xs ts cs be ga hbe hga nx nt nc (fits_of u22 b25 l3 w3) (fits_of u22 b25 l4 w4) (fits_of u22 b25 l7 w7)

set_option maxRecDepth 100000 in
theorem contract (H : Type) (enc : TypeId × Value → H) (W : World) (base : Nat) (args : Array Value) (ds gs : List (DataW H)) (before : List MemPlace)
    (hval : ∀ (j : Nat) t v, Try.f3.params[j]? = some t → args[j]? = some v → Value.okWide Try.prog W .any base t v)
    (hW : DataW.Whole enc Try.prog Try.f3.params.toList Rows.lookupHoldsSpec.vars false W args.toList ds gs before)
    (hsz : (DataW.weightsEach Try.prog (Try.f3.params.toList ++ Rows.lookupHoldsSpec.plain.varTypes Try.prog) (ds ++ gs)).all (· ≤ reachBytes) = true) :
    Calls Try.prog 3 args W fun e W' => ∃ v, e = .returned v ∧ Rows.lookupHoldsSpec.post enc Try.prog Try.f3 false true false false W args v W' := by
  have hgs : gs = [] := by
    obtain ⟨p, q, _, hV, _⟩ := hW
    cases gs with
    | nil => rfl
    | cons g gs => exact (by simp [DataW.TrodVars, Rows.lookupHoldsSpec] at hV : False).elim
  subst hgs
  refine law_calls (n := 4) (tb := 4) (by kernel_rfl) ?_ ?_ (by kernel_rfl) Try.underlying4 rfl ?_ hval hW ?_
  · have : (Try.f3.params.toList.all fun t => Try.prog.readableRec t && decide (t < Try.prog.types.size)) = true := by kernel_rfl
    intro t ht
    have := List.all_eq_true.1 this t ht
    rw [Bool.and_eq_true] at this
    exact ⟨this.1, of_decide_eq_true this.2⟩
  · have : (Try.f3.params.toList.all fun t => sim Try.prog 4 t) = true := by kernel_rfl
    exact fun t ht => List.all_eq_true.1 this t ht
  · intro ds hl
    have hp : Try.f3.params.toList.length = 7 := by kernel_rfl
    rw [hp] at hl
    match ds, hl with
    | [_, _, _, _, _, _, _], _ => exact ⟨rfl, rfl, rfl⟩
  · intro ys R
    exact read R hsz

set_option maxRecDepth 100000 in
theorem lifted (os : Os) (started : os.Started) (H : Type) (enc : TypeId × Value → H) :
    ReturnsInHanded {} Try.checked os 3 .any (Rows.lookupHoldsSpec.pre6 enc Try.prog Try.f3 Rows.lookupHoldsRow.domain false) (Rows.lookupHoldsSpec.post enc Try.prog Try.f3 false true false false) := by
  refine returnsInHanded_of_change_sized (C := Try.checked) (s := Rows.lookupHoldsSpec) own started (by kernel_rfl) Try.func3
    (ChangeSpec.witness6 (enc := enc) (C := Try.checked) (s := Rows.lookupHoldsSpec) false ⟨#[], #[.int .i64 0, .int .i64 0, .slice none 0 0, .slice none 0 0, .agg #[.int .u64 0, .int .u64 0, .int .u64 0, .int .u64 0], .agg #[.int .u64 0, .int .u64 0, .int .u64 0, .int .u64 0], .slice none 0 0], []⟩ 8 (by kernel_rfl) (by kernel_rfl) (by kernel_rfl) (by kernel_rfl)) ?_
  intro W base args ds gs before hval hW _ hsz _
  exact contract H enc W base args ds gs before hval hW hsz

theorem over : Rows.lookupHoldsRow.holds Try.pinned (OpenSpec.ofChange Rows.lookupHoldsSpec) :=
  OpenClaim.holds_of_wide 3 Try.f3 rfl rfl rfl rfl rfl rfl rfl ⟨rfl, rfl, rfl, rfl, rfl⟩ rfl rfl rfl rfl rfl (by kernel_rfl) Try.func3 (by kernel_rfl)
    (of_decide_eq_true (by kernel_rfl)) (by unfold Func.isWrapper; first | (rw [if_pos (by decide +kernel)]; kernel_rfl) | (rw [if_neg (by decide +kernel)]; exact ⟨rfl, rfl⟩))
    (fun os started H enc _ => lifted os started H enc)

/-- The given statement. -/
theorem proved : Rows.LookupHoldsSaid := over

end Go.Proofs.Ytlaohcpkecmhnaa.lookupHolds
