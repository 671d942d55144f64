
import Derived.Test.YtkgdfkhhaankkaaPvAG
set_option linter.all false
set_option maxRecDepth 100000
set_option linter.unusedVariables false
set_option linter.unusedSimpArgs false
namespace Pv
open Go
set_option maxHeartbeats 4000000
theorem sameInts_ok {T : Nat → Option Fn} (hT : T 21 = some c21) (a b : List Int) (la lb : Lab) (hla : la ≠ .own) (hlb : lb ≠ .own) (ha : a.length < 4611686018427387904) :
  EvF T 21 [] [.one (.sl la 1 (a.map encI)), .one (.sl lb 1 (b.map encI))] [] (.one (.sc (.bool (decide (a = b)))), []) := by
  refine EvF.run hT ?_
  simp -implicitDefEqProofs -dsimp only [go_sem, reduceIte, reduceCtorEq, Nat.reduceAdd, Nat.reduceMul, Nat.reduceSub, Nat.reduceDiv, Nat.reduceLT, Nat.reduceLeDiff, Nat.reduceEqDiff, Nat.reduceBEq, Int.reduceToNat, c21, hla, hlb]
  refine condW_intro (fun h => ?_) (fun h => ?_)
  · simp -implicitDefEqProofs -dsimp only [go_sem, reduceIte, reduceCtorEq, Nat.reduceAdd, Nat.reduceMul, Nat.reduceSub, Nat.reduceDiv, Nat.reduceLT, Nat.reduceLeDiff, Nat.reduceEqDiff, Nat.reduceBEq, Int.reduceToNat, c21, hla, hlb]
    have : ¬ a = b := by intro e; subst e; simp at h
    simp [this]
  · simp -implicitDefEqProofs -dsimp only [go_sem, reduceIte, reduceCtorEq, Nat.reduceAdd, Nat.reduceMul, Nat.reduceSub, Nat.reduceDiv, Nat.reduceLT, Nat.reduceLeDiff, Nat.reduceEqDiff, Nat.reduceBEq, Int.reduceToNat, c21, hla, hlb]
    have hl : a.length = b.length := by simpa using h
    refine LoopW.intro (fun n s => ∃ i : Nat, n + i = a.length ∧ (∀ j, j < i → a[j]? = b[j]?) ∧ s = [(0, .one (.sl la 1 (a.map encI)), 0), (1, .one (.sl lb 1 (b.map encI)), 0), (5, .one (.sc (.int .i64 i)), 0)]) ?_ a.length ?_
    · rintro n s ⟨i, hi, hj, rfl⟩
      simp -implicitDefEqProofs -dsimp only [go_sem, reduceIte, reduceCtorEq, Nat.reduceAdd, Nat.reduceMul, Nat.reduceSub, Nat.reduceDiv, Nat.reduceLT, Nat.reduceLeDiff, Nat.reduceEqDiff, Nat.reduceBEq, Int.reduceToNat, c21, hla, hlb]
      refine condW_intro (fun h => ?_) (fun h => ?_)
      · have h : i < a.length := by simpa using h
        have e1 : a[i]? = some a[i] := by simp [h]
        have e2 : b[i]? = some b[i] := by simp [← hl, h]
        simp -implicitDefEqProofs -dsimp only [go_sem, reduceIte, reduceCtorEq, Nat.reduceAdd, Nat.reduceMul, Nat.reduceSub, Nat.reduceDiv, Nat.reduceLT, Nat.reduceLeDiff, Nat.reduceEqDiff, Nat.reduceBEq, Int.reduceToNat, c21, hla, hlb, e1, e2, ← hl, h]
        refine condW_intro (fun h2 => ?_) (fun h2 => ?_)
        · simp -implicitDefEqProofs -dsimp only [go_sem, reduceIte, reduceCtorEq, Nat.reduceAdd, Nat.reduceMul, Nat.reduceSub, Nat.reduceDiv, Nat.reduceLT, Nat.reduceLeDiff, Nat.reduceEqDiff, Nat.reduceBEq, Int.reduceToNat, c21, hla, hlb]
          have : ¬ a = b := by intro e; subst e; simp at h2
          simp [this]
        · have h2 : a[i] = b[i] := by simpa using h2
          simp -implicitDefEqProofs -dsimp only [go_sem, reduceIte, reduceCtorEq, Nat.reduceAdd, Nat.reduceMul, Nat.reduceSub, Nat.reduceDiv, Nat.reduceLT, Nat.reduceLeDiff, Nat.reduceEqDiff, Nat.reduceBEq, Int.reduceToNat, c21, hla, hlb, wS (show i < 4611686018427387904 by omega)]
          refine ⟨n - 1, by omega, i + 1, by omega, fun j hj2 => ?_, rfl⟩
          by_cases e : j = i
          · subst e; rw [e1, e2, h2]
          · exact hj j (by omega)
      · have h : ¬ i < a.length := by simpa using h
        simp -implicitDefEqProofs -dsimp only [go_sem, reduceIte, reduceCtorEq, Nat.reduceAdd, Nat.reduceMul, Nat.reduceSub, Nat.reduceDiv, Nat.reduceLT, Nat.reduceLeDiff, Nat.reduceEqDiff, Nat.reduceBEq, Int.reduceToNat, c21, hla, hlb]
        have : a = b := by
          apply List.ext_getElem? ; intro j
          by_cases hh : j < i
          · exact hj j hh
          · rw [List.getElem?_eq_none (by omega), List.getElem?_eq_none (by omega)]
        simp [this]
    · simp -implicitDefEqProofs -dsimp only [go_sem, reduceIte, reduceCtorEq, Nat.reduceAdd, Nat.reduceMul, Nat.reduceSub, Nat.reduceDiv, Nat.reduceLT, Nat.reduceLeDiff, Nat.reduceEqDiff, Nat.reduceBEq, Int.reduceToNat, c21]
      exact ⟨0, by simp, by simp, rfl⟩
theorem sameBools_ok {T : Nat → Option Fn} (hT : T 28 = some c28) (a b : List Bool) (la lb : Lab) (hla : la ≠ .own) (hlb : lb ≠ .own) (ha : a.length < 4611686018427387904) :
  EvF T 28 [] [.one (.sl la 1 (a.map encB)), .one (.sl lb 1 (b.map encB))] [] (.one (.sc (.bool (decide (a = b)))), []) := by
  refine EvF.run hT ?_
  simp -implicitDefEqProofs -dsimp only [go_sem, reduceIte, reduceCtorEq, Nat.reduceAdd, Nat.reduceMul, Nat.reduceSub, Nat.reduceDiv, Nat.reduceLT, Nat.reduceLeDiff, Nat.reduceEqDiff, Nat.reduceBEq, Int.reduceToNat, c28, hla, hlb]
  refine condW_intro (fun h => ?_) (fun h => ?_)
  · simp -implicitDefEqProofs -dsimp only [go_sem, reduceIte, reduceCtorEq, Nat.reduceAdd, Nat.reduceMul, Nat.reduceSub, Nat.reduceDiv, Nat.reduceLT, Nat.reduceLeDiff, Nat.reduceEqDiff, Nat.reduceBEq, Int.reduceToNat, c28, hla, hlb]
    have : ¬ a = b := by intro e; subst e; simp at h
    simp [this]
  · simp -implicitDefEqProofs -dsimp only [go_sem, reduceIte, reduceCtorEq, Nat.reduceAdd, Nat.reduceMul, Nat.reduceSub, Nat.reduceDiv, Nat.reduceLT, Nat.reduceLeDiff, Nat.reduceEqDiff, Nat.reduceBEq, Int.reduceToNat, c28, hla, hlb]
    have hl : a.length = b.length := by simpa using h
    refine LoopW.intro (fun n s => ∃ i : Nat, n + i = a.length ∧ (∀ j, j < i → a[j]? = b[j]?) ∧ s = [(0, .one (.sl la 1 (a.map encB)), 0), (1, .one (.sl lb 1 (b.map encB)), 0), (5, .one (.sc (.int .i64 i)), 0)]) ?_ a.length ?_
    · rintro n s ⟨i, hi, hj, rfl⟩
      simp -implicitDefEqProofs -dsimp only [go_sem, reduceIte, reduceCtorEq, Nat.reduceAdd, Nat.reduceMul, Nat.reduceSub, Nat.reduceDiv, Nat.reduceLT, Nat.reduceLeDiff, Nat.reduceEqDiff, Nat.reduceBEq, Int.reduceToNat, c28, hla, hlb]
      refine condW_intro (fun h => ?_) (fun h => ?_)
      · have h : i < a.length := by simpa using h
        have e1 : a[i]? = some a[i] := by simp [h]
        have e2 : b[i]? = some b[i] := by simp [← hl, h]
        simp -implicitDefEqProofs -dsimp only [go_sem, reduceIte, reduceCtorEq, Nat.reduceAdd, Nat.reduceMul, Nat.reduceSub, Nat.reduceDiv, Nat.reduceLT, Nat.reduceLeDiff, Nat.reduceEqDiff, Nat.reduceBEq, Int.reduceToNat, c28, hla, hlb, e1, e2, ← hl, h]
        refine condW_intro (fun h2 => ?_) (fun h2 => ?_)
        · simp -implicitDefEqProofs -dsimp only [go_sem, reduceIte, reduceCtorEq, Nat.reduceAdd, Nat.reduceMul, Nat.reduceSub, Nat.reduceDiv, Nat.reduceLT, Nat.reduceLeDiff, Nat.reduceEqDiff, Nat.reduceBEq, Int.reduceToNat, c28, hla, hlb]
          have : ¬ a = b := by intro e; subst e; simp at h2
          simp [this]
        · have h2 : a[i] = b[i] := by simpa using h2
          simp -implicitDefEqProofs -dsimp only [go_sem, reduceIte, reduceCtorEq, Nat.reduceAdd, Nat.reduceMul, Nat.reduceSub, Nat.reduceDiv, Nat.reduceLT, Nat.reduceLeDiff, Nat.reduceEqDiff, Nat.reduceBEq, Int.reduceToNat, c28, hla, hlb, wS (show i < 4611686018427387904 by omega)]
          refine ⟨n - 1, by omega, i + 1, by omega, fun j hj2 => ?_, rfl⟩
          by_cases e : j = i
          · subst e; rw [e1, e2, h2]
          · exact hj j (by omega)
      · have h : ¬ i < a.length := by simpa using h
        simp -implicitDefEqProofs -dsimp only [go_sem, reduceIte, reduceCtorEq, Nat.reduceAdd, Nat.reduceMul, Nat.reduceSub, Nat.reduceDiv, Nat.reduceLT, Nat.reduceLeDiff, Nat.reduceEqDiff, Nat.reduceBEq, Int.reduceToNat, c28, hla, hlb]
        have : a = b := by
          apply List.ext_getElem? ; intro j
          by_cases hh : j < i
          · exact hj j hh
          · rw [List.getElem?_eq_none (by omega), List.getElem?_eq_none (by omega)]
        simp [this]
    · simp -implicitDefEqProofs -dsimp only [go_sem, reduceIte, reduceCtorEq, Nat.reduceAdd, Nat.reduceMul, Nat.reduceSub, Nat.reduceDiv, Nat.reduceLT, Nat.reduceLeDiff, Nat.reduceEqDiff, Nat.reduceBEq, Int.reduceToNat, c28]
      exact ⟨0, by simp, by simp, rfl⟩
theorem sameLists_ok {T : Nat → Option Fn} (hT : T 27 = some c27) (hT2 : T 21 = some c21) (a b : List (List Int)) (la lb : Lab) (hla : la ≠ .own) (hlb : lb ≠ .own) (ka kb : Lab) (hka : ka ≠ .own) (hkb : kb ≠ .own) (hs : ∀ x ∈ a, x.length < 4611686018427387904) (ha : a.length < 4611686018427387904) :
  EvF T 27 [] [.one (.sl la 1 (a.map (encS ka 1 encI))), .one (.sl lb 1 (b.map (encS kb 1 encI)))] [] (.one (.sc (.bool (decide (a = b)))), []) := by
  refine EvF.run hT ?_
  simp -implicitDefEqProofs -dsimp only [go_sem, reduceIte, reduceCtorEq, Nat.reduceAdd, Nat.reduceMul, Nat.reduceSub, Nat.reduceDiv, Nat.reduceLT, Nat.reduceLeDiff, Nat.reduceEqDiff, Nat.reduceBEq, Int.reduceToNat, c27, hla, hlb, hka, hkb]
  refine condW_intro (fun h => ?_) (fun h => ?_)
  · simp -implicitDefEqProofs -dsimp only [go_sem, reduceIte, reduceCtorEq, Nat.reduceAdd, Nat.reduceMul, Nat.reduceSub, Nat.reduceDiv, Nat.reduceLT, Nat.reduceLeDiff, Nat.reduceEqDiff, Nat.reduceBEq, Int.reduceToNat, c27, hla, hlb, hka, hkb]
    have : ¬ a = b := by intro e; subst e; simp at h
    simp [this]
  · simp -implicitDefEqProofs -dsimp only [go_sem, reduceIte, reduceCtorEq, Nat.reduceAdd, Nat.reduceMul, Nat.reduceSub, Nat.reduceDiv, Nat.reduceLT, Nat.reduceLeDiff, Nat.reduceEqDiff, Nat.reduceBEq, Int.reduceToNat, c27, hla, hlb, hka, hkb]
    have hl : a.length = b.length := by simpa using h
    refine LoopW.intro (fun n s => ∃ i : Nat, n + i = a.length ∧ (∀ j, j < i → a[j]? = b[j]?) ∧ s = [(0, .one (.sl la 1 (a.map (encS ka 1 encI))), 0), (1, .one (.sl lb 1 (b.map (encS kb 1 encI))), 0), (5, .one (.sc (.int .i64 i)), 0)]) ?_ a.length ?_
    · rintro n s ⟨i, hi, hj, rfl⟩
      simp -implicitDefEqProofs -dsimp only [go_sem, reduceIte, reduceCtorEq, Nat.reduceAdd, Nat.reduceMul, Nat.reduceSub, Nat.reduceDiv, Nat.reduceLT, Nat.reduceLeDiff, Nat.reduceEqDiff, Nat.reduceBEq, Int.reduceToNat, c27, hla, hlb, hka, hkb]
      refine condW_intro (fun h => ?_) (fun h => ?_)
      · have h : i < a.length := by simpa using h
        have e1 : a[i]? = some a[i] := by simp [h]
        have e2 : b[i]? = some b[i] := by simp [← hl, h]
        simp -implicitDefEqProofs -dsimp only [go_sem, reduceIte, reduceCtorEq, Nat.reduceAdd, Nat.reduceMul, Nat.reduceSub, Nat.reduceDiv, Nat.reduceLT, Nat.reduceLeDiff, Nat.reduceEqDiff, Nat.reduceBEq, Int.reduceToNat, c27, hla, hlb, hka, hkb, e1, e2, ← hl, h]
        refine CallF.intro (sameInts_ok hT2 a[i] b[i] ka kb hka hkb (hs _ (by simp))) ?_
        simp -implicitDefEqProofs -dsimp only [go_sem, reduceIte, reduceCtorEq, Nat.reduceAdd, Nat.reduceMul, Nat.reduceSub, Nat.reduceDiv, Nat.reduceLT, Nat.reduceLeDiff, Nat.reduceEqDiff, Nat.reduceBEq, Int.reduceToNat, c27, hla, hlb, hka, hkb]
        refine condW_intro (fun h2 => ?_) (fun h2 => ?_)
        · simp -implicitDefEqProofs -dsimp only [go_sem, reduceIte, reduceCtorEq, Nat.reduceAdd, Nat.reduceMul, Nat.reduceSub, Nat.reduceDiv, Nat.reduceLT, Nat.reduceLeDiff, Nat.reduceEqDiff, Nat.reduceBEq, Int.reduceToNat, c27, hla, hlb, hka, hkb]
          have : ¬ a = b := by intro e; subst e; simp at h2
          simp [this]
        · have h2 : a[i] = b[i] := by simpa using h2
          simp -implicitDefEqProofs -dsimp only [go_sem, reduceIte, reduceCtorEq, Nat.reduceAdd, Nat.reduceMul, Nat.reduceSub, Nat.reduceDiv, Nat.reduceLT, Nat.reduceLeDiff, Nat.reduceEqDiff, Nat.reduceBEq, Int.reduceToNat, c27, hla, hlb, hka, hkb, wS (show i < 4611686018427387904 by omega)]
          refine ⟨n - 1, by omega, i + 1, by omega, fun j hj2 => ?_, rfl⟩
          by_cases e : j = i
          · subst e; rw [e1, e2, h2]
          · exact hj j (by omega)
      · have h : ¬ i < a.length := by simpa using h
        simp -implicitDefEqProofs -dsimp only [go_sem, reduceIte, reduceCtorEq, Nat.reduceAdd, Nat.reduceMul, Nat.reduceSub, Nat.reduceDiv, Nat.reduceLT, Nat.reduceLeDiff, Nat.reduceEqDiff, Nat.reduceBEq, Int.reduceToNat, c27, hla, hlb, hka, hkb]
        have : a = b := by
          apply List.ext_getElem? ; intro j
          by_cases hh : j < i
          · exact hj j hh
          · rw [List.getElem?_eq_none (by omega), List.getElem?_eq_none (by omega)]
        simp [this]
    · simp -implicitDefEqProofs -dsimp only [go_sem, reduceIte, reduceCtorEq, Nat.reduceAdd, Nat.reduceMul, Nat.reduceSub, Nat.reduceDiv, Nat.reduceLT, Nat.reduceLeDiff, Nat.reduceEqDiff, Nat.reduceBEq, Int.reduceToNat, c27]
      exact ⟨0, by simp, by simp, rfl⟩
end Pv

set_option maxRecDepth 100000
set_option linter.unusedVariables false
set_option linter.unusedSimpArgs false
namespace Pv
open Go
structure Snap where
  values : List Int
  counts : List Int
  chans : List (List (Bool × Int))
  cut : List Int
  saved : List Int
  opn : List Bool
  record : List (List Int)
deriving DecidableEq
def snapRow (L : Nat → Lab) (s : Snap) : List V := [.sl (L 0) 1 (s.values.map encI), .sl (L 1) 1 (s.counts.map encI), .sl (L 2) 1 (s.chans.map (encS (L 7) 2 encP)), .sl (L 3) 1 (s.cut.map encI), .sl (L 4) 1 (s.saved.map encI), .sl (L 5) 1 (s.opn.map encB), .sl (L 6) 1 (s.record.map (encS (L 8) 1 encI))]
structure Small (s : Snap) : Prop where
  values : s.values.length < 4611686018427387904
  counts : s.counts.length < 4611686018427387904
  chans : s.chans.length < 4611686018427387904
  cut : s.cut.length < 4611686018427387904
  saved : s.saved.length < 4611686018427387904
  opn : s.opn.length < 4611686018427387904
  record : s.record.length < 4611686018427387904
  chan : ∀ x ∈ s.chans, x.length < 4611686018427387904
  recs : ∀ x ∈ s.record, x.length < 4611686018427387904
set_option maxHeartbeats 8000000
theorem same_ok {T : Nat → Option Fn} (h21 : T 21 = some c21) (h27 : T 27 = some c27) (h28 : T 28 = some c28) (h13 : T 13 = some c13) (a b : Snap) (K L : Nat → Lab) (hK : ∀ i, K i ≠ .own) (hL : ∀ i, L i ≠ .own) (sa : Small a) :
  EvF T 13 [] [.agg (snapRow K a), .agg (snapRow L b)] [] (.one (.sc (.bool (decide (a = b)))), []) := by
  obtain ⟨a1, a2, a3, a4, a5, a6, a7⟩ := a
  obtain ⟨b1, b2, b3, b4, b5, b6, b7⟩ := b
  obtain ⟨z1, z2, z3, z4, z5, z6, z7, z8, z9⟩ := sa
  simp only at z1 z2 z3 z4 z5 z6 z7 z8 z9
  refine EvF.run h13 ?_
  simp -implicitDefEqProofs -dsimp only [go_sem, reduceIte, reduceCtorEq, Nat.reduceAdd, Nat.reduceMul, Nat.reduceSub, Nat.reduceDiv, Nat.reduceLT, Nat.reduceLeDiff, Nat.reduceEqDiff, Nat.reduceBEq, Int.reduceToNat, c13, snapRow, hK, hL]
  refine CallF.intro (sameInts_ok h21 a1 b1 _ _ (hK _) (hL _) z1) ?_
  by_cases e1 : a1 = b1
  case neg =>
    simp -implicitDefEqProofs -dsimp only [go_sem, reduceIte, reduceCtorEq, Nat.reduceAdd, Nat.reduceMul, Nat.reduceSub, Nat.reduceDiv, Nat.reduceLT, Nat.reduceLeDiff, Nat.reduceEqDiff, Nat.reduceBEq, Int.reduceToNat, c13, e1, hK, hL]
    simp [e1]
  simp -implicitDefEqProofs -dsimp only [go_sem, reduceIte, reduceCtorEq, Nat.reduceAdd, Nat.reduceMul, Nat.reduceSub, Nat.reduceDiv, Nat.reduceLT, Nat.reduceLeDiff, Nat.reduceEqDiff, Nat.reduceBEq, Int.reduceToNat, c13, e1, hK, hL]
  refine CallF.intro (sameInts_ok h21 a2 b2 _ _ (hK _) (hL _) z2) ?_
  by_cases e2 : a2 = b2
  case neg =>
    simp -implicitDefEqProofs -dsimp only [go_sem, reduceIte, reduceCtorEq, Nat.reduceAdd, Nat.reduceMul, Nat.reduceSub, Nat.reduceDiv, Nat.reduceLT, Nat.reduceLeDiff, Nat.reduceEqDiff, Nat.reduceBEq, Int.reduceToNat, c13, e2, hK, hL]
    simp [e2]
  simp -implicitDefEqProofs -dsimp only [go_sem, reduceIte, reduceCtorEq, Nat.reduceAdd, Nat.reduceMul, Nat.reduceSub, Nat.reduceDiv, Nat.reduceLT, Nat.reduceLeDiff, Nat.reduceEqDiff, Nat.reduceBEq, Int.reduceToNat, c13, e2, hK, hL]
  refine CallF.intro (sameInts_ok h21 a4 b4 _ _ (hK _) (hL _) z4) ?_
  by_cases e4 : a4 = b4
  case neg =>
    simp -implicitDefEqProofs -dsimp only [go_sem, reduceIte, reduceCtorEq, Nat.reduceAdd, Nat.reduceMul, Nat.reduceSub, Nat.reduceDiv, Nat.reduceLT, Nat.reduceLeDiff, Nat.reduceEqDiff, Nat.reduceBEq, Int.reduceToNat, c13, e4, hK, hL]
    simp [e4]
  simp -implicitDefEqProofs -dsimp only [go_sem, reduceIte, reduceCtorEq, Nat.reduceAdd, Nat.reduceMul, Nat.reduceSub, Nat.reduceDiv, Nat.reduceLT, Nat.reduceLeDiff, Nat.reduceEqDiff, Nat.reduceBEq, Int.reduceToNat, c13, e4, hK, hL]
  refine CallF.intro (sameInts_ok h21 a5 b5 _ _ (hK _) (hL _) z5) ?_
  by_cases e5 : a5 = b5
  case neg =>
    simp -implicitDefEqProofs -dsimp only [go_sem, reduceIte, reduceCtorEq, Nat.reduceAdd, Nat.reduceMul, Nat.reduceSub, Nat.reduceDiv, Nat.reduceLT, Nat.reduceLeDiff, Nat.reduceEqDiff, Nat.reduceBEq, Int.reduceToNat, c13, e5, hK, hL]
    simp [e5]
  simp -implicitDefEqProofs -dsimp only [go_sem, reduceIte, reduceCtorEq, Nat.reduceAdd, Nat.reduceMul, Nat.reduceSub, Nat.reduceDiv, Nat.reduceLT, Nat.reduceLeDiff, Nat.reduceEqDiff, Nat.reduceBEq, Int.reduceToNat, c13, e5, hK, hL]
  refine CallF.intro (sameBools_ok h28 a6 b6 _ _ (hK _) (hL _) z6) ?_
  by_cases e6 : a6 = b6
  case neg =>
    simp -implicitDefEqProofs -dsimp only [go_sem, reduceIte, reduceCtorEq, Nat.reduceAdd, Nat.reduceMul, Nat.reduceSub, Nat.reduceDiv, Nat.reduceLT, Nat.reduceLeDiff, Nat.reduceEqDiff, Nat.reduceBEq, Int.reduceToNat, c13, e6, hK, hL]
    simp [e6]
  simp -implicitDefEqProofs -dsimp only [go_sem, reduceIte, reduceCtorEq, Nat.reduceAdd, Nat.reduceMul, Nat.reduceSub, Nat.reduceDiv, Nat.reduceLT, Nat.reduceLeDiff, Nat.reduceEqDiff, Nat.reduceBEq, Int.reduceToNat, c13, e6, hK, hL]
  refine CallF.intro (sameLists_ok h27 h21 a7 b7 _ _ (hK _) (hL _) _ _ (hK _) (hL _) z9 z7) ?_
  by_cases e7 : a7 = b7
  case neg =>
    simp -implicitDefEqProofs -dsimp only [go_sem, reduceIte, reduceCtorEq, Nat.reduceAdd, Nat.reduceMul, Nat.reduceSub, Nat.reduceDiv, Nat.reduceLT, Nat.reduceLeDiff, Nat.reduceEqDiff, Nat.reduceBEq, Int.reduceToNat, c13, e7, hK, hL]
    simp [e7]
  simp -implicitDefEqProofs -dsimp only [go_sem, reduceIte, reduceCtorEq, Nat.reduceAdd, Nat.reduceMul, Nat.reduceSub, Nat.reduceDiv, Nat.reduceLT, Nat.reduceLeDiff, Nat.reduceEqDiff, Nat.reduceBEq, Int.reduceToNat, c13, e7, hK, hL]
  subst e1 e2 e4 e5 e6 e7
  refine condW_intro (fun h => ?_) (fun h => ?_)
  · simp -implicitDefEqProofs -dsimp only [go_sem, reduceIte, reduceCtorEq, Nat.reduceAdd, Nat.reduceMul, Nat.reduceSub, Nat.reduceDiv, Nat.reduceLT, Nat.reduceLeDiff, Nat.reduceEqDiff, Nat.reduceBEq, Int.reduceToNat, c13, hK, hL]
    have : ¬ a3 = b3 := by intro e; subst e; simp at h
    simp [this]
  simp -implicitDefEqProofs -dsimp only [go_sem, reduceIte, reduceCtorEq, Nat.reduceAdd, Nat.reduceMul, Nat.reduceSub, Nat.reduceDiv, Nat.reduceLT, Nat.reduceLeDiff, Nat.reduceEqDiff, Nat.reduceBEq, Int.reduceToNat, c13, hK, hL]
  have hl : a3.length = b3.length := by simpa using h
  refine LoopW.intro (fun n s => ∃ i : Nat, n + i = a3.length ∧ (∀ j, j < i → a3[j]? = b3[j]?) ∧ s = [(2, .one (.ptr 5002 0), 0), (3, .one (.ptr 5003 0), 0), (5, .one (.sc (.int .i64 i)), 0),
    (5002, .agg (snapRow K ⟨a1, a2, a3, a4, a5, a6, a7⟩), 0), (5003, .agg (snapRow L ⟨a1, a2, b3, a4, a5, a6, a7⟩), 0)]) ?_ a3.length ?_
  · rintro n s ⟨i, hi, hj, rfl⟩
    simp -implicitDefEqProofs -dsimp only [go_sem, reduceIte, reduceCtorEq, Nat.reduceAdd, Nat.reduceMul, Nat.reduceSub, Nat.reduceDiv, Nat.reduceLT, Nat.reduceLeDiff, Nat.reduceEqDiff, Nat.reduceBEq, Int.reduceToNat, c13, hK, hL, snapRow]
    refine condW_intro (fun h => ?_) (fun h => ?_)
    · have h : i < a3.length := by simpa using h
      have e1 : a3[i]? = some a3[i] := by simp [h]
      have e2 : b3[i]? = some b3[i] := by simp [← hl, h]
      simp -implicitDefEqProofs -dsimp only [go_sem, reduceIte, reduceCtorEq, Nat.reduceAdd, Nat.reduceMul, Nat.reduceSub, Nat.reduceDiv, Nat.reduceLT, Nat.reduceLeDiff, Nat.reduceEqDiff, Nat.reduceBEq, Int.reduceToNat, c13, hK, hL, e1, e2, ← hl, h]
      refine condW_intro (fun h2 => ?_) (fun h2 => ?_)
      · simp -implicitDefEqProofs -dsimp only [go_sem, reduceIte, reduceCtorEq, Nat.reduceAdd, Nat.reduceMul, Nat.reduceSub, Nat.reduceDiv, Nat.reduceLT, Nat.reduceLeDiff, Nat.reduceEqDiff, Nat.reduceBEq, Int.reduceToNat, c13, hK, hL]
        have : ¬ a3 = b3 := by intro e; subst e; simp at h2
        simp [this]
      · simp -implicitDefEqProofs -dsimp only [go_sem, reduceIte, reduceCtorEq, Nat.reduceAdd, Nat.reduceMul, Nat.reduceSub, Nat.reduceDiv, Nat.reduceLT, Nat.reduceLeDiff, Nat.reduceEqDiff, Nat.reduceBEq, Int.reduceToNat, c13, hK, hL]
        have hl2 : a3[i].length = b3[i].length := by simpa using h2
        refine LoopW.intro (fun n2 s => ∃ k : Nat, n2 + k = a3[i].length ∧ (∀ j, j < k → a3[i][j]? = b3[i][j]?) ∧ s = [(2, .one (.ptr 5002 0), 0), (3, .one (.ptr 5003 0), 0), (5, .one (.sc (.int .i64 i)), 0), (6, .one (.sc (.int .i64 k)), 0),
          (5002, .agg (snapRow K ⟨a1, a2, a3, a4, a5, a6, a7⟩), 0), (5003, .agg (snapRow L ⟨a1, a2, b3, a4, a5, a6, a7⟩), 0)]) ?_ a3[i].length ?_
        · rintro n2 s ⟨k, hk, hkj, rfl⟩
          simp -implicitDefEqProofs -dsimp only [go_sem, reduceIte, reduceCtorEq, Nat.reduceAdd, Nat.reduceMul, Nat.reduceSub, Nat.reduceDiv, Nat.reduceLT, Nat.reduceLeDiff, Nat.reduceEqDiff, Nat.reduceBEq, Int.reduceToNat, c13, hK, hL, snapRow, e1, e2, ← hl, h]
          refine condW_intro (fun h3 => ?_) (fun h3 => ?_)
          · have h3 : k < a3[i].length := by simpa using h3
            have f1 : a3[i][k]? = some a3[i][k] := by simp [h3]
            have f2 : b3[i][k]? = some b3[i][k] := by simp [← hl2, h3]
            simp -implicitDefEqProofs -dsimp only [go_sem, reduceIte, reduceCtorEq, Nat.reduceAdd, Nat.reduceMul, Nat.reduceSub, Nat.reduceDiv, Nat.reduceLT, Nat.reduceLeDiff, Nat.reduceEqDiff, Nat.reduceBEq, Int.reduceToNat, c13, hK, hL, e1, e2, ← hl, h, ← hl2, h3, f1, f2]
            refine condW_intro (fun h4 => ?_) (fun h4 => ?_)
            · simp -implicitDefEqProofs -dsimp only [go_sem, reduceIte, reduceCtorEq, Nat.reduceAdd, Nat.reduceMul, Nat.reduceSub, Nat.reduceDiv, Nat.reduceLT, Nat.reduceLeDiff, Nat.reduceEqDiff, Nat.reduceBEq, Int.reduceToNat, c13, hK, hL]
              have : ¬ a3 = b3 := by intro e; subst e; simp at h4
              simp [this]
            · have h4 : a3[i][k] = b3[i][k] := by
                have := h4
                simp at this
                exact Prod.ext this.1 this.2
              have hs := z8 a3[i] (by simp)
              simp -implicitDefEqProofs -dsimp only [go_sem, reduceIte, reduceCtorEq, Nat.reduceAdd, Nat.reduceMul, Nat.reduceSub, Nat.reduceDiv, Nat.reduceLT, Nat.reduceLeDiff, Nat.reduceEqDiff, Nat.reduceBEq, Int.reduceToNat, c13, hK, hL, wS (show k < 4611686018427387904 by omega)]
              refine ⟨n2 - 1, by omega, k + 1, by omega, fun j hj2 => ?_, rfl⟩
              by_cases e : j = k
              · subst e; rw [f1, f2, h4]
              · exact hkj j (by omega)
          · have h3 : ¬ k < a3[i].length := by simpa using h3
            have h5 : a3[i] = b3[i] := by
              apply List.ext_getElem? ; intro j
              by_cases hh : j < k
              · exact hkj j hh
              · rw [List.getElem?_eq_none (by omega), List.getElem?_eq_none (by omega)]
            simp -implicitDefEqProofs -dsimp only [go_sem, reduceIte, reduceCtorEq, Nat.reduceAdd, Nat.reduceMul, Nat.reduceSub, Nat.reduceDiv, Nat.reduceLT, Nat.reduceLeDiff, Nat.reduceEqDiff, Nat.reduceBEq, Int.reduceToNat, c13, hK, hL, wS (show i < 4611686018427387904 by omega)]
            refine ⟨n - 1, by omega, i + 1, by omega, fun j hj2 => ?_, rfl⟩
            by_cases e : j = i
            · subst e; rw [e1, e2, h5]
            · exact hj j (by omega)
        · simp -implicitDefEqProofs -dsimp only [go_sem, reduceIte, reduceCtorEq, Nat.reduceAdd, Nat.reduceMul, Nat.reduceSub, Nat.reduceDiv, Nat.reduceLT, Nat.reduceLeDiff, Nat.reduceEqDiff, Nat.reduceBEq, Int.reduceToNat, c13]
          exact ⟨0, by simp, by simp, rfl⟩
    · have h : ¬ i < a3.length := by simpa using h
      simp -implicitDefEqProofs -dsimp only [go_sem, reduceIte, reduceCtorEq, Nat.reduceAdd, Nat.reduceMul, Nat.reduceSub, Nat.reduceDiv, Nat.reduceLT, Nat.reduceLeDiff, Nat.reduceEqDiff, Nat.reduceBEq, Int.reduceToNat, c13, hK, hL]
      have : a3 = b3 := by
        apply List.ext_getElem? ; intro j
        by_cases hh : j < i
        · exact hj j hh
        · rw [List.getElem?_eq_none (by omega), List.getElem?_eq_none (by omega)]
      simp [this]
  · simp -implicitDefEqProofs -dsimp only [go_sem, reduceIte, reduceCtorEq, Nat.reduceAdd, Nat.reduceMul, Nat.reduceSub, Nat.reduceDiv, Nat.reduceLT, Nat.reduceLeDiff, Nat.reduceEqDiff, Nat.reduceBEq, Int.reduceToNat, c13]
    exact ⟨0, by simp, by simp, rfl⟩
end Pv

set_option maxRecDepth 100000
set_option linter.unusedVariables false
set_option linter.unusedSimpArgs false
namespace Pv
open Go
def newSnap (v : List Int) : Snap := ⟨v, List.replicate v.length 0, List.replicate (v.length * v.length) [], List.replicate v.length (-1), List.replicate v.length 0, List.replicate (v.length * v.length) false, List.replicate (v.length * v.length) []⟩
def noSnap : Snap := ⟨[], [], [], [], [], [], []⟩
def own : Nat → Lab := fun _ => .own
def newF (v : List Int) : Snap × Int := if 1 ≤ v.length ∧ v.length ≤ 5 then (newSnap v, 0) else (noSnap, 3)
def encR (x : Snap × Int) : Pv.T × List (List V) := (.tup [.agg (snapRow own x.1), .one (.sc (.int .i64 x.2))], [])
theorem repS {k : Nat} : List.replicate k [V.sl .own 2 []] = (List.replicate k []).map (encS .own 2 encP) := by simp [encS]
theorem repL {k : Nat} : List.replicate k [V.sl .own 1 []] = (List.replicate k []).map (encS .own 1 encI) := by simp [encS]
set_option maxHeartbeats 8000000
theorem new1_ok {T : Nat → Option Fn} (h11 : T 11 = some c11) (v : List Int) (l : Lab) (hl : l ≠ .own) (hv : v.length < 4611686018427387904) : EvF T 11 [] [.one (.sl l 1 (v.map encI))] [] (encR (newF v)) := by
  refine EvF.run h11 ?_
  simp -implicitDefEqProofs -dsimp only [go_sem, reduceIte, reduceCtorEq, Nat.reduceAdd, Nat.reduceMul, Nat.reduceSub, Nat.reduceDiv, Nat.reduceLT, Nat.reduceLeDiff, Nat.reduceEqDiff, Nat.reduceBEq, Int.reduceToNat, c11, hl]
  by_cases h1 : 1 ≤ v.length
  case neg =>
    have e1 : ((v.length : Int) < 1) = True := by simp; omega
    simp -implicitDefEqProofs -dsimp only [go_sem, reduceIte, reduceCtorEq, Nat.reduceAdd, Nat.reduceMul, Nat.reduceSub, Nat.reduceDiv, Nat.reduceLT, Nat.reduceLeDiff, Nat.reduceEqDiff, Nat.reduceBEq, Int.reduceToNat, c11, hl, e1]
    have : newF v = (noSnap, 3) := by simp [newF, h1]
    rw [this]; rfl
  have e1 : ((v.length : Int) < 1) = False := by simp; omega
  simp -implicitDefEqProofs -dsimp only [go_sem, reduceIte, reduceCtorEq, Nat.reduceAdd, Nat.reduceMul, Nat.reduceSub, Nat.reduceDiv, Nat.reduceLT, Nat.reduceLeDiff, Nat.reduceEqDiff, Nat.reduceBEq, Int.reduceToNat, c11, hl, e1]
  by_cases h2 : v.length ≤ 5
  case neg =>
    have e2 : ((5 : Int) < v.length) = True := by simp; omega
    simp -implicitDefEqProofs -dsimp only [go_sem, reduceIte, reduceCtorEq, Nat.reduceAdd, Nat.reduceMul, Nat.reduceSub, Nat.reduceDiv, Nat.reduceLT, Nat.reduceLeDiff, Nat.reduceEqDiff, Nat.reduceBEq, Int.reduceToNat, c11, hl, e2]
    have : newF v = (noSnap, 3) := by simp [newF, h2]
    rw [this]; rfl
  have e2 : ((5 : Int) < v.length) = False := by simp; omega
  have hq : v.length * v.length ≤ 25 := Nat.mul_le_mul h2 h2
  have ew : IntKind.i64.wrap ((v.length : Int) * v.length) = ((v.length * v.length : Nat) : Int) := by
    rw [← Int.natCast_mul]; exact w64 (by omega) (by omega)
  have m1 : ((v.length : Int) * ((8 : Nat) : Int) ≤ 2 ^ 47) = True := eq_true (by omega)
  have m2 : (((v.length * v.length : Nat) : Int) * ((24 : Nat) : Int) ≤ 2 ^ 47) = True := eq_true (by omega)
  have m3 : (((v.length * v.length : Nat) : Int) * ((1 : Nat) : Int) ≤ 2 ^ 47) = True := eq_true (by omega)
  have m4 : ((0 + v.length) * 8 ≤ 2 ^ 47) = True := eq_true (by omega)
  have m5 : ((v.length) * 8 ≤ 2 ^ 47) = True := eq_true (by omega)
  simp -implicitDefEqProofs -dsimp only [go_sem, reduceIte, reduceCtorEq, Nat.reduceAdd, Nat.reduceMul, Nat.reduceSub, Nat.reduceDiv, Nat.reduceLT, Nat.reduceLeDiff, Nat.reduceEqDiff, Nat.reduceBEq, Int.reduceToNat, c11, hl, e2, ew, m1, m2, m3, m4, m5, repS, repL]
  refine LoopW.intro (fun n s => ∃ i : Nat, n + i = v.length ∧ s = [(2, .one (.ptr 5002 0), 0), (5, .one (.ptr 5005 0), 0), (39, .one (.sc (.int .i64 v.length)), 0), (40, .one (.sc (.int .i64 i)), 0),
    (5002, .agg (snapRow own noSnap), 0), (5005, .agg (snapRow own { newSnap v with cut := List.replicate i (-1) ++ List.replicate n 0 }), 0)]) ?_ v.length ?_
  · rintro n s ⟨i, hi, rfl⟩
    simp -implicitDefEqProofs -dsimp only [go_sem, reduceIte, reduceCtorEq, Nat.reduceAdd, Nat.reduceMul, Nat.reduceSub, Nat.reduceDiv, Nat.reduceLT, Nat.reduceLeDiff, Nat.reduceEqDiff, Nat.reduceBEq, Int.reduceToNat, c11, snapRow, newSnap, own, noSnap]
    refine condW_intro (fun h => ?_) (fun h => ?_)
    · have h : i < v.length := by simpa using h
      obtain ⟨k, rfl⟩ : ∃ k, n = k + 1 := ⟨n - 1, by omega⟩
      have g1 : (i < i + (k + 1)) = True := eq_true (by omega)
      have g2 : (List.replicate i (-1 : Int) ++ List.replicate (k + 1) 0)[i]? = some 0 := by
        rw [List.getElem?_append_right (by simp)]; simp
      have g3 : (List.replicate i (-1 : Int) ++ List.replicate (k + 1) 0).set i (-1) = List.replicate (i + 1) (-1) ++ List.replicate k 0 := by
        rw [List.set_append_right _ _ (by simp), List.replicate_succ, List.replicate_succ' (n := i)]; simp
      simp -implicitDefEqProofs -dsimp only [go_sem, reduceIte, reduceCtorEq, Nat.reduceAdd, Nat.reduceMul, Nat.reduceSub, Nat.reduceDiv, Nat.reduceLT, Nat.reduceLeDiff, Nat.reduceEqDiff, Nat.reduceBEq, Int.reduceToNat, c11, g1, g2, g3, wS (show i < 4611686018427387904 by omega)]
      exact ⟨k, by omega, i + 1, by omega, rfl⟩
    · have h : ¬ i < v.length := by simpa using h
      obtain rfl : n = 0 := by omega
      simp -implicitDefEqProofs -dsimp only [go_sem, reduceIte, reduceCtorEq, Nat.reduceAdd, Nat.reduceMul, Nat.reduceSub, Nat.reduceDiv, Nat.reduceLT, Nat.reduceLeDiff, Nat.reduceEqDiff, Nat.reduceBEq, Int.reduceToNat, c11]
      have e3 : newF v = (newSnap v, 0) := by simp [newF, h1, h2]
      have e4 : i = v.length := by omega
      rw [e3, e4]
      simp [encR, snapRow, newSnap, own]
  · simp -implicitDefEqProofs -dsimp only [go_sem, reduceIte, reduceCtorEq, Nat.reduceAdd, Nat.reduceMul, Nat.reduceSub, Nat.reduceDiv, Nat.reduceLT, Nat.reduceLeDiff, Nat.reduceEqDiff, Nat.reduceBEq, Int.reduceToNat, c11]
    refine ⟨0, by omega, ?_⟩
    simp [snapRow, newSnap, own, noSnap]
theorem new2_ok {T : Nat → Option Fn} (h12 : T 12 = some c12) (v : List Int) (l : Lab) (hl : l ≠ .own) (hv : v.length < 4611686018427387904) : EvF T 12 [] [.one (.sl l 1 (v.map encI))] [] (encR (newF v)) := by
  refine EvF.run h12 ?_
  simp -implicitDefEqProofs -dsimp only [go_sem, reduceIte, reduceCtorEq, Nat.reduceAdd, Nat.reduceMul, Nat.reduceSub, Nat.reduceDiv, Nat.reduceLT, Nat.reduceLeDiff, Nat.reduceEqDiff, Nat.reduceBEq, Int.reduceToNat, c12, hl]
  by_cases h1 : 1 ≤ v.length
  case neg =>
    have e1 : ((v.length : Int) < 1) = True := by simp; omega
    simp -implicitDefEqProofs -dsimp only [go_sem, reduceIte, reduceCtorEq, Nat.reduceAdd, Nat.reduceMul, Nat.reduceSub, Nat.reduceDiv, Nat.reduceLT, Nat.reduceLeDiff, Nat.reduceEqDiff, Nat.reduceBEq, Int.reduceToNat, c12, hl, e1]
    have : newF v = (noSnap, 3) := by simp [newF, h1]
    rw [this]; rfl
  have e1 : ((v.length : Int) < 1) = False := by simp; omega
  simp -implicitDefEqProofs -dsimp only [go_sem, reduceIte, reduceCtorEq, Nat.reduceAdd, Nat.reduceMul, Nat.reduceSub, Nat.reduceDiv, Nat.reduceLT, Nat.reduceLeDiff, Nat.reduceEqDiff, Nat.reduceBEq, Int.reduceToNat, c12, hl, e1]
  by_cases h2 : v.length ≤ 5
  case neg =>
    have e2 : ((5 : Int) < v.length) = True := by simp; omega
    simp -implicitDefEqProofs -dsimp only [go_sem, reduceIte, reduceCtorEq, Nat.reduceAdd, Nat.reduceMul, Nat.reduceSub, Nat.reduceDiv, Nat.reduceLT, Nat.reduceLeDiff, Nat.reduceEqDiff, Nat.reduceBEq, Int.reduceToNat, c12, hl, e2]
    have : newF v = (noSnap, 3) := by simp [newF, h2]
    rw [this]; rfl
  have e2 : ((5 : Int) < v.length) = False := by simp; omega
  have hq : v.length * v.length ≤ 25 := Nat.mul_le_mul h2 h2
  have ew : IntKind.i64.wrap ((v.length : Int) * v.length) = ((v.length * v.length : Nat) : Int) := by
    rw [← Int.natCast_mul]; exact w64 (by omega) (by omega)
  have m1 : ((v.length : Int) * ((8 : Nat) : Int) ≤ 2 ^ 47) = True := eq_true (by omega)
  have m2 : (((v.length * v.length : Nat) : Int) * ((24 : Nat) : Int) ≤ 2 ^ 47) = True := eq_true (by omega)
  have m3 : (((v.length * v.length : Nat) : Int) * ((1 : Nat) : Int) ≤ 2 ^ 47) = True := eq_true (by omega)
  have m4 : ((0 + v.length) * 8 ≤ 2 ^ 47) = True := eq_true (by omega)
  have m5 : ((v.length) * 8 ≤ 2 ^ 47) = True := eq_true (by omega)
  simp -implicitDefEqProofs -dsimp only [go_sem, reduceIte, reduceCtorEq, Nat.reduceAdd, Nat.reduceMul, Nat.reduceSub, Nat.reduceDiv, Nat.reduceLT, Nat.reduceLeDiff, Nat.reduceEqDiff, Nat.reduceBEq, Int.reduceToNat, c12, hl, e2, ew, m1, m2, m3, m4, m5, repS, repL]
  refine LoopW.intro (fun n s => ∃ i : Nat, n + i = v.length ∧ s = [(2, .one (.ptr 5002 0), 0), (4, .one (.sc (.int .i64 v.length)), 0), (5, .one (.ptr 5005 0), 0), (6, .one (.sc (.int .i64 i)), 0),
    (5002, .agg (snapRow own noSnap), 0), (5005, .agg (snapRow own { newSnap v with cut := List.replicate i (-1) }), 0)]) ?_ v.length ?_
  · rintro n s ⟨i, hi, rfl⟩
    simp -implicitDefEqProofs -dsimp only [go_sem, reduceIte, reduceCtorEq, Nat.reduceAdd, Nat.reduceMul, Nat.reduceSub, Nat.reduceDiv, Nat.reduceLT, Nat.reduceLeDiff, Nat.reduceEqDiff, Nat.reduceBEq, Int.reduceToNat, c12, snapRow, newSnap, own, noSnap]
    refine condW_intro (fun h => ?_) (fun h => ?_)
    · have h : i < v.length := by simpa using h
      have g1 : ((i + 1) * 8 ≤ 2 ^ 47) = True := eq_true (by omega)
      simp -implicitDefEqProofs -dsimp only [go_sem, reduceIte, reduceCtorEq, Nat.reduceAdd, Nat.reduceMul, Nat.reduceSub, Nat.reduceDiv, Nat.reduceLT, Nat.reduceLeDiff, Nat.reduceEqDiff, Nat.reduceBEq, Int.reduceToNat, c12, g1, wS (show i < 4611686018427387904 by omega)]
      refine ⟨n - 1, by omega, i + 1, by omega, ?_⟩
      simp [snapRow, newSnap, own, noSnap, List.replicate_succ', encI]
    · have h : ¬ i < v.length := by simpa using h
      simp -implicitDefEqProofs -dsimp only [go_sem, reduceIte, reduceCtorEq, Nat.reduceAdd, Nat.reduceMul, Nat.reduceSub, Nat.reduceDiv, Nat.reduceLT, Nat.reduceLeDiff, Nat.reduceEqDiff, Nat.reduceBEq, Int.reduceToNat, c12]
      have e3 : newF v = (newSnap v, 0) := by simp [newF, h1, h2]
      have e4 : i = v.length := by omega
      rw [e3, e4]
      simp [encR, snapRow, newSnap, own]
  · simp -implicitDefEqProofs -dsimp only [go_sem, reduceIte, reduceCtorEq, Nat.reduceAdd, Nat.reduceMul, Nat.reduceSub, Nat.reduceDiv, Nat.reduceLT, Nat.reduceLeDiff, Nat.reduceEqDiff, Nat.reduceBEq, Int.reduceToNat, c12]
    refine ⟨0, by omega, ?_⟩
    simp [snapRow, newSnap, own, noSnap]
end Pv
