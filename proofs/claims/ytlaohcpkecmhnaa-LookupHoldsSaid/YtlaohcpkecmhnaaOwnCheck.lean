/-
Contracts of lookup.Checks, sigillaw17.alive. (Laid by wip/tools/fill2.py out of a text of our own.)
-/
import Derived.Test.YtlaohcpkecmhnaaOwnProd

set_option linter.all false

namespace Go.Sg
open Go Go.Own
open Go.Own (V D Wy)

theorem Checks1_ok (s : Int) (hs : Sort01 s) (a b : Nat) (ha : a < B ^ 4) (hb : b < B ^ 4) : FnOk PP n_lookup_Checks_D1 [ve a, ve b, .d (.ptr [i s])] [] (.ret (ve (mulF (pr s) a b))) [] :=
  FnOk.by at_lookup_Checks_D1 (by kernel_rfl) ({ o := { call := [(9, callV (ve (mulF (pr s) a b)))] } }) {} [ve (mulF (pr s) a b)] rfl (
    pf (Mul_ok s hs a b ha hb) <|
    pf (by decide : (4 : Nat) ≤ (4 : Nat)) <|
    pf (DLe.r (elem (mulF (pr s) a b))) <|
    pz) (by kernel_rfl)

theorem Checks2_ok (s : Int) (hs : Sort01 s) (a b : Nat) (ha : a < B ^ 4) (hb : b < B ^ 4) : FnOk PP n_lookup_Checks_D2 [ve a, ve b, .d (.ptr [i s])] [] (.ret (ve (subF (pr s) a b))) [] :=
  FnOk.by at_lookup_Checks_D2 (by kernel_rfl) ({ o := { call := [(9, callV (ve (subF (pr s) a b)))] } }) {} [ve (subF (pr s) a b)] rfl (
    pf (Sub_ok s hs a b ha hb) <|
    pf (by decide : (4 : Nat) ≤ (4 : Nat)) <|
    pf (DLe.r (elem (subF (pr s) a b))) <|
    pz) (by kernel_rfl)

def w4 (x : Nat) : List D := [u (limb 0 x), u (limb 1 x), u (limb 2 x), u (limb 3 x)]
/-- A lookup's values at a point. -/
structure SeekN where
  inp : Nat
  tab : Nat
  sorted : Nat
  back : Nat
  matched : Nat
  at' : Nat
  next : Nat
structure SeekN.Ok (q : SeekN) : Prop where
  inp : q.inp < B ^ 4
  tab : q.tab < B ^ 4
  sorted : q.sorted < B ^ 4
  back : q.back < B ^ 4
  matched : q.matched < B ^ 4
  at' : q.at' < B ^ 4
  next : q.next < B ^ 4
def seekL (q : SeekN) : List D := w4 q.inp ++ (w4 q.tab ++ (w4 q.sorted ++ (w4 q.back ++ (w4 q.matched ++ (w4 q.at' ++ w4 q.next)))))

def chk0 (p f at' : Nat) : Nat := mulF p f (subF p 1 at')
def chk1 (p l at' : Nat) : Nat := mulF p l (subF p (mulF p at' at') at')
def chk2 (p w be ga : Nat) (inp tab sorted matched at' next : Nat) : Nat := mulF p w (subF p (mulF p next (pairF p be ga sorted matched)) (mulF p at' (pairF p be ga inp tab)))
def chk3 (p f sorted matched : Nat) : Nat := mulF p f (subF p sorted matched)
def chk4 (p w sorted matched back : Nat) : Nat := mulF p w (mulF p (subF p sorted matched) (subF p sorted back))

theorem Checks_of (s : Int) (hs : Sort01 s) (x f l w inp tab sorted back matched at' next be ga : Nat) (hf : f < B ^ 4) (hl : l < B ^ 4) (hw : w < B ^ 4) (h1 : inp < B ^ 4) (h2 : tab < B ^ 4) (h3 : sorted < B ^ 4) (h4 : back < B ^ 4) (h5 : matched < B ^ 4) (h6 : at' < B ^ 4) (h7 : next < B ^ 4) (hbe : be < B ^ 4) (hga : ga < B ^ 4) : FnOk PP n_lookup_Checks [vi s, .d (.agg (spotL x f l w)), .d (.agg (seekL ⟨inp, tab, sorted, back, matched, at', next⟩)), ve be, ve ga] [] (.ret (vl [chk0 (pr s) f at', chk1 (pr s) l at', chk2 (pr s) w be ga inp tab sorted matched at' next, chk3 (pr s) f sorted matched, chk4 (pr s) w sorted matched back])) [] :=
  FnOk.by at_lookup_Checks (by kernel_rfl) ({ o := { call := [(19, callV (V.tup [ve (pr s), vi (0 : Int)])), (35, callV (ve (subF (pr s) sorted matched))), (43, callV (ve (subF (pr s) (1 : Nat) at'))), (44, callV (ve (mulF (pr s) f (subF (pr s) (1 : Nat) at')))), (54, callV (ve (mulF (pr s) at' at'))), (57, callV (ve (subF (pr s) (mulF (pr s) at' at') at'))), (58, callV (ve (mulF (pr s) l (subF (pr s) (mulF (pr s) at' at') at')))), (71, callV (ve (mulF (pr s) (addF (pr s) sorted be) (addF (pr s) matched ga)))), (72, callV (ve (mulF (pr s) next (mulF (pr s) (addF (pr s) sorted be) (addF (pr s) matched ga))))), (81, callV (ve (mulF (pr s) (addF (pr s) inp be) (addF (pr s) tab ga)))), (82, callV (ve (mulF (pr s) at' (mulF (pr s) (addF (pr s) inp be) (addF (pr s) tab ga))))), (83, callV (ve (subF (pr s) (mulF (pr s) next (mulF (pr s) (addF (pr s) sorted be) (addF (pr s) matched ga))) (mulF (pr s) at' (mulF (pr s) (addF (pr s) inp be) (addF (pr s) tab ga)))))), (84, callV (ve (mulF (pr s) w (subF (pr s) (mulF (pr s) next (mulF (pr s) (addF (pr s) sorted be) (addF (pr s) matched ga))) (mulF (pr s) at' (mulF (pr s) (addF (pr s) inp be) (addF (pr s) tab ga))))))), (89, callV (ve (mulF (pr s) f (subF (pr s) sorted matched)))), (100, callV (ve (subF (pr s) sorted back))), (101, callV (ve (mulF (pr s) (subF (pr s) sorted matched) (subF (pr s) sorted back)))), (102, callV (ve (mulF (pr s) w (mulF (pr s) (subF (pr s) sorted matched) (subF (pr s) sorted back)))))] } }) {} [vl [chk0 (pr s) f at', chk1 (pr s) l at', chk2 (pr s) w be ga inp tab sorted matched at' next, chk3 (pr s) f sorted matched, chk4 (pr s) w sorted matched back]] rfl (
    pf (Modulus_ok s hs) <|
    pf (by decide : (4 : Nat) ≤ (4 : Nat)) <|
    pf (Checks2_ok s hs sorted matched h3 h5) <|
    pf (flat_d (elem (subF (pr s) sorted matched)) (rfl)) <|
    pf (by decide : (4 : Nat) ≤ (4 : Nat)) <|
    pf PP_mixed <|
    pf (Checks2_ok s hs ((1 : Nat)) at' (by decide) h6) <|
    pf (flat_d (elem (subF (pr s) (1 : Nat) at')) (rfl)) <|
    pf (Checks1_ok s hs f (subF (pr s) (1 : Nat) at') hf (subF_lt (little s hs) ((1 : Nat)) at')) <|
    pf (flat_d (elem (mulF (pr s) f (subF (pr s) (1 : Nat) at'))) (rfl)) <|
    pf (Checks1_ok s hs at' at' h6 h6) <|
    pf (flat_d (elem (mulF (pr s) at' at')) (rfl)) <|
    pf (Checks2_ok s hs (mulF (pr s) at' at') at' (mulF_lt (little s hs) at' at') h6) <|
    pf (flat_d (elem (subF (pr s) (mulF (pr s) at' at') at')) (rfl)) <|
    pf (Checks1_ok s hs l (subF (pr s) (mulF (pr s) at' at') at') hl (subF_lt (little s hs) (mulF (pr s) at' at') at')) <|
    pf (flat_d (elem (mulF (pr s) l (subF (pr s) (mulF (pr s) at' at') at'))) (rfl)) <|
    pf (pair_of_ok s hs be ga sorted matched hbe hga h3 h5) <|
    pf (Checks1_ok s hs next (mulF (pr s) (addF (pr s) sorted be) (addF (pr s) matched ga)) h7 (mulF_lt (little s hs) (addF (pr s) sorted be) (addF (pr s) matched ga))) <|
    pf (flat_d (elem (mulF (pr s) next (mulF (pr s) (addF (pr s) sorted be) (addF (pr s) matched ga)))) (rfl)) <|
    pf (pair_of_ok s hs be ga inp tab hbe hga h1 h2) <|
    pf (Checks1_ok s hs at' (mulF (pr s) (addF (pr s) inp be) (addF (pr s) tab ga)) h6 (mulF_lt (little s hs) (addF (pr s) inp be) (addF (pr s) tab ga))) <|
    pf (flat_d (elem (mulF (pr s) at' (mulF (pr s) (addF (pr s) inp be) (addF (pr s) tab ga)))) (rfl)) <|
    pf (Checks2_ok s hs (mulF (pr s) next (mulF (pr s) (addF (pr s) sorted be) (addF (pr s) matched ga))) (mulF (pr s) at' (mulF (pr s) (addF (pr s) inp be) (addF (pr s) tab ga))) (mulF_lt (little s hs) next (mulF (pr s) (addF (pr s) sorted be) (addF (pr s) matched ga))) (mulF_lt (little s hs) at' (mulF (pr s) (addF (pr s) inp be) (addF (pr s) tab ga)))) <|
    pf (flat_d (elem (subF (pr s) (mulF (pr s) next (mulF (pr s) (addF (pr s) sorted be) (addF (pr s) matched ga))) (mulF (pr s) at' (mulF (pr s) (addF (pr s) inp be) (addF (pr s) tab ga))))) (rfl)) <|
    pf (Checks1_ok s hs w (subF (pr s) (mulF (pr s) next (mulF (pr s) (addF (pr s) sorted be) (addF (pr s) matched ga))) (mulF (pr s) at' (mulF (pr s) (addF (pr s) inp be) (addF (pr s) tab ga)))) hw (subF_lt (little s hs) (mulF (pr s) next (mulF (pr s) (addF (pr s) sorted be) (addF (pr s) matched ga))) (mulF (pr s) at' (mulF (pr s) (addF (pr s) inp be) (addF (pr s) tab ga))))) <|
    pf (flat_d (elem (mulF (pr s) w (subF (pr s) (mulF (pr s) next (mulF (pr s) (addF (pr s) sorted be) (addF (pr s) matched ga))) (mulF (pr s) at' (mulF (pr s) (addF (pr s) inp be) (addF (pr s) tab ga)))))) (rfl)) <|
    pf (Checks1_ok s hs f (subF (pr s) sorted matched) hf (subF_lt (little s hs) sorted matched)) <|
    pf (flat_d (elem (mulF (pr s) f (subF (pr s) sorted matched))) (rfl)) <|
    pf (Checks2_ok s hs sorted back h3 h4) <|
    pf (flat_d (elem (subF (pr s) sorted back)) (rfl)) <|
    pf (Checks1_ok s hs (subF (pr s) sorted matched) (subF (pr s) sorted back) (subF_lt (little s hs) sorted matched) (subF_lt (little s hs) sorted back)) <|
    pf (flat_d (elem (mulF (pr s) (subF (pr s) sorted matched) (subF (pr s) sorted back))) (rfl)) <|
    pf (Checks1_ok s hs w (mulF (pr s) (subF (pr s) sorted matched) (subF (pr s) sorted back)) hw (mulF_lt (little s hs) (subF (pr s) sorted matched) (subF (pr s) sorted back))) <|
    pf (flat_d (elem (mulF (pr s) w (mulF (pr s) (subF (pr s) sorted matched) (subF (pr s) sorted back)))) (rfl)) <|
    pf (DLe.r (D.sl (4 : Nat) [elem (chk0 (pr s) f at'), elem (chk1 (pr s) l at'), elem (chk2 (pr s) w be ga inp tab sorted matched at' next), elem (chk3 (pr s) f sorted matched), elem (chk4 (pr s) w sorted matched back)])) <|
    pz) (by kernel_rfl)

end Go.Sg
