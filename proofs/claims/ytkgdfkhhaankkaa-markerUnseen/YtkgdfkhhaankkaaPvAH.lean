
import Derived.Test.YtkgdfkhhaankkaaPvAG
set_option linter.all false
set_option maxRecDepth 100000
set_option linter.unusedVariables false
set_option linter.unusedSimpArgs false
namespace Pv
open Go
set_option maxHeartbeats 4000000
theorem sameInts_ok {T : Nat → Option Fn} (hT : T 21 = some c21) (a b : List Int) (la lb : Lab) (hla : la ≠ .own) (hlb : lb ≠ .own) (ha : a.length < 4611686018427387904) :
  EvF T 21 [] [.one (.sl la 1 (a.map encI)), .one (.sl lb 1 (b.map encI))] [] (.one (.sc (.bool (decide (a = b)))), []) := by
  refine EvF.run hT ?_
  simp -implicitDefEqProofs -dsimp only [go_sem, reduceIte, reduceCtorEq, Nat.reduceAdd, Nat.reduceMul, Nat.reduceSub, Nat.reduceDiv, Nat.reduceLT, Nat.reduceLeDiff, Nat.reduceEqDiff, Nat.reduceBEq, Int.reduceToNat, c21, hla, hlb]
  refine condW_intro (fun h => ?_) (fun h => ?_)
  · simp -implicitDefEqProofs -dsimp only [go_sem, reduceIte, reduceCtorEq, Nat.reduceAdd, Nat.reduceMul, Nat.reduceSub, Nat.reduceDiv, Nat.reduceLT, Nat.reduceLeDiff, Nat.reduceEqDiff, Nat.reduceBEq, Int.reduceToNat, c21, hla, hlb]
    have : ¬ a = b := by intro e; subst e; simp at h
    simp [this]
  · simp -implicitDefEqProofs -dsimp only [go_sem, reduceIte, reduceCtorEq, Nat.reduceAdd, Nat.reduceMul, Nat.reduceSub, Nat.reduceDiv, Nat.reduceLT, Nat.reduceLeDiff, Nat.reduceEqDiff, Nat.reduceBEq, Int.reduceToNat, c21, hla, hlb]
    have hl : a.length = b.length := by simpa using h
    refine LoopW.intro (fun n s => ∃ i : Nat, n + i = a.length ∧ (∀ j, j < i → a[j]? = b[j]?) ∧ s = [(0, .one (.sl la 1 (a.map encI)), 0), (1, .one (.sl lb 1 (b.map encI)), 0), (5, .one (.sc (.int .i64 i)), 0)]) ?_ a.length ?_
    · rintro n s ⟨i, hi, hj, rfl⟩
      simp -implicitDefEqProofs -dsimp only [go_sem, reduceIte, reduceCtorEq, Nat.reduceAdd, Nat.reduceMul, Nat.reduceSub, Nat.reduceDiv, Nat.reduceLT, Nat.reduceLeDiff, Nat.reduceEqDiff, Nat.reduceBEq, Int.reduceToNat, c21, hla, hlb]
      refine condW_intro (fun h => ?_) (fun h => ?_)
      · have h : i < a.length := by simpa using h
        have e1 : a[i]? = some a[i] := by simp [h]
        have e2 : b[i]? = some b[i] := by simp [← hl, h]
        simp -implicitDefEqProofs -dsimp only [go_sem, reduceIte, reduceCtorEq, Nat.reduceAdd, Nat.reduceMul, Nat.reduceSub, Nat.reduceDiv, Nat.reduceLT, Nat.reduceLeDiff, Nat.reduceEqDiff, Nat.reduceBEq, Int.reduceToNat, c21, hla, hlb, e1, e2, ← hl, h]
        refine condW_intro (fun h2 => ?_) (fun h2 => ?_)
        · simp -implicitDefEqProofs -dsimp only [go_sem, reduceIte, reduceCtorEq, Nat.reduceAdd, Nat.reduceMul, Nat.reduceSub, Nat.reduceDiv, Nat.reduceLT, Nat.reduceLeDiff, Nat.reduceEqDiff, Nat.reduceBEq, Int.reduceToNat, c21, hla, hlb]
          have : ¬ a = b := by intro e; subst e; simp at h2
          simp [this]
        · have h2 : a[i] = b[i] := by simpa using h2
          simp -implicitDefEqProofs -dsimp only [go_sem, reduceIte, reduceCtorEq, Nat.reduceAdd, Nat.reduceMul, Nat.reduceSub, Nat.reduceDiv, Nat.reduceLT, Nat.reduceLeDiff, Nat.reduceEqDiff, Nat.reduceBEq, Int.reduceToNat, c21, hla, hlb, wS (show i < 4611686018427387904 by omega)]
          refine ⟨n - 1, by omega, i + 1, by omega, fun j hj2 => ?_, rfl⟩
          by_cases e : j = i
          · subst e; rw [e1, e2, h2]
          · exact hj j (by omega)
      · have h : ¬ i < a.length := by simpa using h
        simp -implicitDefEqProofs -dsimp only [go_sem, reduceIte, reduceCtorEq, Nat.reduceAdd, Nat.reduceMul, Nat.reduceSub, Nat.reduceDiv, Nat.reduceLT, Nat.reduceLeDiff, Nat.reduceEqDiff, Nat.reduceBEq, Int.reduceToNat, c21, hla, hlb]
        have : a = b := by
          apply List.ext_getElem? ; intro j
          by_cases hh : j < i
          · exact hj j hh
          · rw [List.getElem?_eq_none (by omega), List.getElem?_eq_none (by omega)]
        simp [this]
    · simp -implicitDefEqProofs -dsimp only [go_sem, reduceIte, reduceCtorEq, Nat.reduceAdd, Nat.reduceMul, Nat.reduceSub, Nat.reduceDiv, Nat.reduceLT, Nat.reduceLeDiff, Nat.reduceEqDiff, Nat.reduceBEq, Int.reduceToNat, c21]
      exact ⟨0, by simp, by simp, rfl⟩
theorem sameBools_ok {T : Nat → Option Fn} (hT : T 28 = some c28) (a b : List Bool) (la lb : Lab) (hla : la ≠ .own) (hlb : lb ≠ .own) (ha : a.length < 4611686018427387904) :
  EvF T 28 [] [.one (.sl la 1 (a.map encB)), .one (.sl lb 1 (b.map encB))] [] (.one (.sc (.bool (decide (a = b)))), []) := by
  refine EvF.run hT ?_
  simp -implicitDefEqProofs -dsimp only [go_sem, reduceIte, reduceCtorEq, Nat.reduceAdd, Nat.reduceMul, Nat.reduceSub, Nat.reduceDiv, Nat.reduceLT, Nat.reduceLeDiff, Nat.reduceEqDiff, Nat.reduceBEq, Int.reduceToNat, c28, hla, hlb]
  refine condW_intro (fun h => ?_) (fun h => ?_)
  · simp -implicitDefEqProofs -dsimp only [go_sem, reduceIte, reduceCtorEq, Nat.reduceAdd, Nat.reduceMul, Nat.reduceSub, Nat.reduceDiv, Nat.reduceLT, Nat.reduceLeDiff, Nat.reduceEqDiff, Nat.reduceBEq, Int.reduceToNat, c28, hla, hlb]
    have : ¬ a = b := by intro e; subst e; simp at h
    simp [this]
  · simp -implicitDefEqProofs -dsimp only [go_sem, reduceIte, reduceCtorEq, Nat.reduceAdd, Nat.reduceMul, Nat.reduceSub, Nat.reduceDiv, Nat.reduceLT, Nat.reduceLeDiff, Nat.reduceEqDiff, Nat.reduceBEq, Int.reduceToNat, c28, hla, hlb]
    have hl : a.length = b.length := by simpa using h
    refine LoopW.intro (fun n s => ∃ i : Nat, n + i = a.length ∧ (∀ j, j < i → a[j]? = b[j]?) ∧ s = [(0, .one (.sl la 1 (a.map encB)), 0), (1, .one (.sl lb 1 (b.map encB)), 0), (5, .one (.sc (.int .i64 i)), 0)]) ?_ a.length ?_
    · rintro n s ⟨i, hi, hj, rfl⟩
      simp -implicitDefEqProofs -dsimp only [go_sem, reduceIte, reduceCtorEq, Nat.reduceAdd, Nat.reduceMul, Nat.reduceSub, Nat.reduceDiv, Nat.reduceLT, Nat.reduceLeDiff, Nat.reduceEqDiff, Nat.reduceBEq, Int.reduceToNat, c28, hla, hlb]
      refine condW_intro (fun h => ?_) (fun h => ?_)
      · have h : i < a.length := by simpa using h
        have e1 : a[i]? = some a[i] := by simp [h]
        have e2 : b[i]? = some b[i] := by simp [← hl, h]
        simp -implicitDefEqProofs -dsimp only [go_sem, reduceIte, reduceCtorEq, Nat.reduceAdd, Nat.reduceMul, Nat.reduceSub, Nat.reduceDiv, Nat.reduceLT, Nat.reduceLeDiff, Nat.reduceEqDiff, Nat.reduceBEq, Int.reduceToNat, c28, hla, hlb, e1, e2, ← hl, h]
        refine condW_intro (fun h2 => ?_) (fun h2 => ?_)
        · simp -implicitDefEqProofs -dsimp only [go_sem, reduceIte, reduceCtorEq, Nat.reduceAdd, Nat.reduceMul, Nat.reduceSub, Nat.reduceDiv, Nat.reduceLT, Nat.reduceLeDiff, Nat.reduceEqDiff, Nat.reduceBEq, Int.reduceToNat, c28, hla, hlb]
          have : ¬ a = b := by intro e; subst e; simp at h2
          simp [this]
        · have h2 : a[i] = b[i] := by simpa using h2
          simp -implicitDefEqProofs -dsimp only [go_sem, reduceIte, reduceCtorEq, Nat.reduceAdd, Nat.reduceMul, Nat.reduceSub, Nat.reduceDiv, Nat.reduceLT, Nat.reduceLeDiff, Nat.reduceEqDiff, Nat.reduceBEq, Int.reduceToNat, c28, hla, hlb, wS (show i < 4611686018427387904 by omega)]
          refine ⟨n - 1, by omega, i + 1, by omega, fun j hj2 => ?_, rfl⟩
          by_cases e : j = i
          · subst e; rw [e1, e2, h2]
          · exact hj j (by omega)
      · have h : ¬ i < a.length := by simpa using h
        simp -implicitDefEqProofs -dsimp only [go_sem, reduceIte, reduceCtorEq, Nat.reduceAdd, Nat.reduceMul, Nat.reduceSub, Nat.reduceDiv, Nat.reduceLT, Nat.reduceLeDiff, Nat.reduceEqDiff, Nat.reduceBEq, Int.reduceToNat, c28, hla, hlb]
        have : a = b := by
          apply List.ext_getElem? ; intro j
          by_cases hh : j < i
          · exact hj j hh
          · rw [List.getElem?_eq_none (by omega), List.getElem?_eq_none (by omega)]
        simp [this]
    · simp -implicitDefEqProofs -dsimp only [go_sem, reduceIte, reduceCtorEq, Nat.reduceAdd, Nat.reduceMul, Nat.reduceSub, Nat.reduceDiv, Nat.reduceLT, Nat.reduceLeDiff, Nat.reduceEqDiff, Nat.reduceBEq, Int.reduceToNat, c28]
      exact ⟨0, by simp, by simp, rfl⟩
theorem sameLists_ok {T : Nat → Option Fn} (hT : T 27 = some c27) (hT2 : T 21 = some c21) (a b : List (List Int)) (la lb : Lab) (hla : la ≠ .own) (hlb : lb ≠ .own) (ka kb : Lab) (hka : ka ≠ .own) (hkb : kb ≠ .own) (hs : ∀ x ∈ a, x.length < 4611686018427387904) (ha : a.length < 4611686018427387904) :
  EvF T 27 [] [.one (.sl la 1 (a.map (encS ka 1 encI))), .one (.sl lb 1 (b.map (encS kb 1 encI)))] [] (.one (.sc (.bool (decide (a = b)))), []) := by
  refine EvF.run hT ?_
  simp -implicitDefEqProofs -dsimp only [go_sem, reduceIte, reduceCtorEq, Nat.reduceAdd, Nat.reduceMul, Nat.reduceSub, Nat.reduceDiv, Nat.reduceLT, Nat.reduceLeDiff, Nat.reduceEqDiff, Nat.reduceBEq, Int.reduceToNat, c27, hla, hlb, hka, hkb]
  refine condW_intro (fun h => ?_) (fun h => ?_)
  · simp -implicitDefEqProofs -dsimp only [go_sem, reduceIte, reduceCtorEq, Nat.reduceAdd, Nat.reduceMul, Nat.reduceSub, Nat.reduceDiv, Nat.reduceLT, Nat.reduceLeDiff, Nat.reduceEqDiff, Nat.reduceBEq, Int.reduceToNat, c27, hla, hlb, hka, hkb]
    have : ¬ a = b := by intro e; subst e; simp at h
    simp [this]
  · simp -implicitDefEqProofs -dsimp only [go_sem, reduceIte, reduceCtorEq, Nat.reduceAdd, Nat.reduceMul, Nat.reduceSub, Nat.reduceDiv, Nat.reduceLT, Nat.reduceLeDiff, Nat.reduceEqDiff, Nat.reduceBEq, Int.reduceToNat, c27, hla, hlb, hka, hkb]
    have hl : a.length = b.length := by simpa using h
    refine LoopW.intro (fun n s => ∃ i : Nat, n + i = a.length ∧ (∀ j, j < i → a[j]? = b[j]?) ∧ s = [(0, .one (.sl la 1 (a.map (encS ka 1 encI))), 0), (1, .one (.sl lb 1 (b.map (encS kb 1 encI))), 0), (5, .one (.sc (.int .i64 i)), 0)]) ?_ a.length ?_
    · rintro n s ⟨i, hi, hj, rfl⟩
      simp -implicitDefEqProofs -dsimp only [go_sem, reduceIte, reduceCtorEq, Nat.reduceAdd, Nat.reduceMul, Nat.reduceSub, Nat.reduceDiv, Nat.reduceLT, Nat.reduceLeDiff, Nat.reduceEqDiff, Nat.reduceBEq, Int.reduceToNat, c27, hla, hlb, hka, hkb]
      refine condW_intro (fun h => ?_) (fun h => ?_)
      · have h : i < a.length := by simpa using h
        have e1 : a[i]? = some a[i] := by simp [h]
        have e2 : b[i]? = some b[i] := by simp [← hl, h]
        simp -implicitDefEqProofs -dsimp only [go_sem, reduceIte, reduceCtorEq, Nat.reduceAdd, Nat.reduceMul, Nat.reduceSub, Nat.reduceDiv, Nat.reduceLT, Nat.reduceLeDiff, Nat.reduceEqDiff, Nat.reduceBEq, Int.reduceToNat, c27, hla, hlb, hka, hkb, e1, e2, ← hl, h]
        refine CallF.intro (sameInts_ok hT2 a[i] b[i] ka kb hka hkb (hs _ (by simp))) ?_
        simp -implicitDefEqProofs -dsimp only [go_sem, reduceIte, reduceCtorEq, Nat.reduceAdd, Nat.reduceMul, Nat.reduceSub, Nat.reduceDiv, Nat.reduceLT, Nat.reduceLeDiff, Nat.reduceEqDiff, Nat.reduceBEq, Int.reduceToNat, c27, hla, hlb, hka, hkb]
        refine condW_intro (fun h2 => ?_) (fun h2 => ?_)
        · simp -implicitDefEqProofs -dsimp only [go_sem, reduceIte, reduceCtorEq, Nat.reduceAdd, Nat.reduceMul, Nat.reduceSub, Nat.reduceDiv, Nat.reduceLT, Nat.reduceLeDiff, Nat.reduceEqDiff, Nat.reduceBEq, Int.reduceToNat, c27, hla, hlb, hka, hkb]
          have : ¬ a = b := by intro e; subst e; simp at h2
          simp [this]
        · have h2 : a[i] = b[i] := by simpa using h2
          simp -implicitDefEqProofs -dsimp only [go_sem, reduceIte, reduceCtorEq, Nat.reduceAdd, Nat.reduceMul, Nat.reduceSub, Nat.reduceDiv, Nat.reduceLT, Nat.reduceLeDiff, Nat.reduceEqDiff, Nat.reduceBEq, Int.reduceToNat, c27, hla, hlb, hka, hkb, wS (show i < 4611686018427387904 by omega)]
          refine ⟨n - 1, by omega, i + 1, by omega, fun j hj2 => ?_, rfl⟩
          by_cases e : j = i
          · subst e; rw [e1, e2, h2]
          · exact hj j (by omega)
      · have h : ¬ i < a.length := by simpa using h
        simp -implicitDefEqProofs -dsimp only [go_sem, reduceIte, reduceCtorEq, Nat.reduceAdd, Nat.reduceMul, Nat.reduceSub, Nat.reduceDiv, Nat.reduceLT, Nat.reduceLeDiff, Nat.reduceEqDiff, Nat.reduceBEq, Int.reduceToNat, c27, hla, hlb, hka, hkb]
        have : a = b := by
          apply List.ext_getElem? ; intro j
          by_cases hh : j < i
          · exact hj j hh
          · rw [List.getElem?_eq_none (by omega), List.getElem?_eq_none (by omega)]
        simp [this]
    · simp -implicitDefEqProofs -dsimp only [go_sem, reduceIte, reduceCtorEq, Nat.reduceAdd, Nat.reduceMul, Nat.reduceSub, Nat.reduceDiv, Nat.reduceLT, Nat.reduceLeDiff, Nat.reduceEqDiff, Nat.reduceBEq, Int.reduceToNat, c27]
      exact ⟨0, by simp, by simp, rfl⟩
end Pv

set_option maxRecDepth 100000
set_option linter.unusedVariables false
set_option linter.unusedSimpArgs false
namespace Pv
open Go
structure Snap where
  values : List Int
  counts : List Int
  chans : List (List (Bool × Int))
  cut : List Int
  saved : List Int
  opn : List Bool
  record : List (List Int)
deriving DecidableEq
def snapRow (L : Nat → Lab) (s : Snap) : List V := [.sl (L 0) 1 (s.values.map encI), .sl (L 1) 1 (s.counts.map encI), .sl (L 2) 1 (s.chans.map (encS (L 7) 2 encP)), .sl (L 3) 1 (s.cut.map encI), .sl (L 4) 1 (s.saved.map encI), .sl (L 5) 1 (s.opn.map encB), .sl (L 6) 1 (s.record.map (encS (L 8) 1 encI))]
structure Small (s : Snap) : Prop where
  values : s.values.length < 4611686018427387904
  counts : s.counts.length < 4611686018427387904
  chans : s.chans.length < 4611686018427387904
  cut : s.cut.length < 4611686018427387904
  saved : s.saved.length < 4611686018427387904
  opn : s.opn.length < 4611686018427387904
  record : s.record.length < 4611686018427387904
  chan : ∀ x ∈ s.chans, x.length < 4611686018427387904
  recs : ∀ x ∈ s.record, x.length < 4611686018427387904
set_option maxHeartbeats 8000000
theorem same_ok {T : Nat → Option Fn} (h21 : T 21 = some c21) (h27 : T 27 = some c27) (h28 : T 28 = some c28) (h13 : T 13 = some c13) (a b : Snap) (K L : Nat → Lab) (hK : ∀ i, K i ≠ .own) (hL : ∀ i, L i ≠ .own) (sa : Small a) :
  EvF T 13 [] [.agg (snapRow K a), .agg (snapRow L b)] [] (.one (.sc (.bool (decide (a = b)))), []) := by
  obtain ⟨a1, a2, a3, a4, a5, a6, a7⟩ := a
  obtain ⟨b1, b2, b3, b4, b5, b6, b7⟩ := b
  obtain ⟨z1, z2, z3, z4, z5, z6, z7, z8, z9⟩ := sa
  simp only at z1 z2 z3 z4 z5 z6 z7 z8 z9
  refine EvF.run h13 ?_
  simp -implicitDefEqProofs -dsimp only [go_sem, reduceIte, reduceCtorEq, Nat.reduceAdd, Nat.reduceMul, Nat.reduceSub, Nat.reduceDiv, Nat.reduceLT, Nat.reduceLeDiff, Nat.reduceEqDiff, Nat.reduceBEq, Int.reduceToNat, c13, snapRow, hK, hL]
  refine CallF.intro (sameInts_ok h21 a1 b1 _ _ (hK _) (hL _) z1) ?_
  by_cases e1 : a1 = b1
  case neg =>
    simp -implicitDefEqProofs -dsimp only [go_sem, reduceIte, reduceCtorEq, Nat.reduceAdd, Nat.reduceMul, Nat.reduceSub, Nat.reduceDiv, Nat.reduceLT, Nat.reduceLeDiff, Nat.reduceEqDiff, Nat.reduceBEq, Int.reduceToNat, c13, e1, hK, hL]
    simp [e1]
  simp -implicitDefEqProofs -dsimp only [go_sem, reduceIte, reduceCtorEq, Nat.reduceAdd, Nat.reduceMul, Nat.reduceSub, Nat.reduceDiv, Nat.reduceLT, Nat.reduceLeDiff, Nat.reduceEqDiff, Nat.reduceBEq, Int.reduceToNat, c13, e1, hK, hL]
  refine CallF.intro (sameInts_ok h21 a2 b2 _ _ (hK _) (hL _) z2) ?_
  by_cases e2 : a2 = b2
  case neg =>
    simp -implicitDefEqProofs -dsimp only [go_sem, reduceIte, reduceCtorEq, Nat.reduceAdd, Nat.reduceMul, Nat.reduceSub, Nat.reduceDiv, Nat.reduceLT, Nat.reduceLeDiff, Nat.reduceEqDiff, Nat.reduceBEq, Int.reduceToNat, c13, e2, hK, hL]
    simp [e2]
  simp -implicitDefEqProofs -dsimp only [go_sem, reduceIte, reduceCtorEq, Nat.reduceAdd, Nat.reduceMul, Nat.reduceSub, Nat.reduceDiv, Nat.reduceLT, Nat.reduceLeDiff, Nat.reduceEqDiff, Nat.reduceBEq, Int.reduceToNat, c13, e2, hK, hL]
  refine CallF.intro (sameInts_ok h21 a4 b4 _ _ (hK _) (hL _) z4) ?_
  by_cases e4 : a4 = b4
  case neg =>
    simp -implicitDefEqProofs -dsimp only [go_sem, reduceIte, reduceCtorEq, Nat.reduceAdd, Nat.reduceMul, Nat.reduceSub, Nat.reduceDiv, Nat.reduceLT, Nat.reduceLeDiff, Nat.reduceEqDiff, Nat.reduceBEq, Int.reduceToNat, c13, e4, hK, hL]
    simp [e4]
  simp -implicitDefEqProofs -dsimp only [go_sem, reduceIte, reduceCtorEq, Nat.reduceAdd, Nat.reduceMul, Nat.reduceSub, Nat.reduceDiv, Nat.reduceLT, Nat.reduceLeDiff, Nat.reduceEqDiff, Nat.reduceBEq, Int.reduceToNat, c13, e4, hK, hL]
  refine CallF.intro (sameInts_ok h21 a5 b5 _ _ (hK _) (hL _) z5) ?_
  by_cases e5 : a5 = b5
  case neg =>
    simp -implicitDefEqProofs -dsimp only [go_sem, reduceIte, reduceCtorEq, Nat.reduceAdd, Nat.reduceMul, Nat.reduceSub, Nat.reduceDiv, Nat.reduceLT, Nat.reduceLeDiff, Nat.reduceEqDiff, Nat.reduceBEq, Int.reduceToNat, c13, e5, hK, hL]
    simp [e5]
  simp -implicitDefEqProofs -dsimp only [go_sem, reduceIte, reduceCtorEq, Nat.reduceAdd, Nat.reduceMul, Nat.reduceSub, Nat.reduceDiv, Nat.reduceLT, Nat.reduceLeDiff, Nat.reduceEqDiff, Nat.reduceBEq, Int.reduceToNat, c13, e5, hK, hL]
  refine CallF.intro (sameBools_ok h28 a6 b6 _ _ (hK _) (hL _) z6) ?_
  by_cases e6 : a6 = b6
  case neg =>
    simp -implicitDefEqProofs -dsimp only [go_sem, reduceIte, reduceCtorEq, Nat.reduceAdd, Nat.reduceMul, Nat.reduceSub, Nat.reduceDiv, Nat.reduceLT, Nat.reduceLeDiff, Nat.reduceEqDiff, Nat.reduceBEq, Int.reduceToNat, c13, e6, hK, hL]
    simp [e6]
  simp -implicitDefEqProofs -dsimp only [go_sem, reduceIte, reduceCtorEq, Nat.reduceAdd, Nat.reduceMul, Nat.reduceSub, Nat.reduceDiv, Nat.reduceLT, Nat.reduceLeDiff, Nat.reduceEqDiff, Nat.reduceBEq, Int.reduceToNat, c13, e6, hK, hL]
  refine CallF.intro (sameLists_ok h27 h21 a7 b7 _ _ (hK _) (hL _) _ _ (hK _) (hL _) z9 z7) ?_
  by_cases e7 : a7 = b7
  case neg =>
    simp -implicitDefEqProofs -dsimp only [go_sem, reduceIte, reduceCtorEq, Nat.reduceAdd, Nat.reduceMul, Nat.reduceSub, Nat.reduceDiv, Nat.reduceLT, Nat.reduceLeDiff, Nat.reduceEqDiff, Nat.reduceBEq, Int.reduceToNat, c13, e7, hK, hL]
    simp [e7]
  simp -implicitDefEqProofs -dsimp only [go_sem, reduceIte, reduceCtorEq, Nat.reduceAdd, Nat.reduceMul, Nat.reduceSub, Nat.reduceDiv, Nat.reduceLT, Nat.reduceLeDiff, Nat.reduceEqDiff, Nat.reduceBEq, Int.reduceToNat, c13, e7, hK, hL]
  subst e1 e2 e4 e5 e6 e7
  refine condW_intro (fun h => ?_) (fun h => ?_)
  · simp -implicitDefEqProofs -dsimp only [go_sem, reduceIte, reduceCtorEq, Nat.reduceAdd, Nat.reduceMul, Nat.reduceSub, Nat.reduceDiv, Nat.reduceLT, Nat.reduceLeDiff, Nat.reduceEqDiff, Nat.reduceBEq, Int.reduceToNat, c13, hK, hL]
    have : ¬ a3 = b3 := by intro e; subst e; simp at h
    simp [this]
  simp -implicitDefEqProofs -dsimp only [go_sem, reduceIte, reduceCtorEq, Nat.reduceAdd, Nat.reduceMul, Nat.reduceSub, Nat.reduceDiv, Nat.reduceLT, Nat.reduceLeDiff, Nat.reduceEqDiff, Nat.reduceBEq, Int.reduceToNat, c13, hK, hL]
  have hl : a3.length = b3.length := by simpa using h
  refine LoopW.intro (fun n s => ∃ i : Nat, n + i = a3.length ∧ (∀ j, j < i → a3[j]? = b3[j]?) ∧ s = [(2, .one (.ptr 5002 0), 0), (3, .one (.ptr 5003 0), 0), (5, .one (.sc (.int .i64 i)), 0),
    (5002, .agg (snapRow K ⟨a1, a2, a3, a4, a5, a6, a7⟩), 0), (5003, .agg (snapRow L ⟨a1, a2, b3, a4, a5, a6, a7⟩), 0)]) ?_ a3.length ?_
  · rintro n s ⟨i, hi, hj, rfl⟩
    simp -implicitDefEqProofs -dsimp only [go_sem, reduceIte, reduceCtorEq, Nat.reduceAdd, Nat.reduceMul, Nat.reduceSub, Nat.reduceDiv, Nat.reduceLT, Nat.reduceLeDiff, Nat.reduceEqDiff, Nat.reduceBEq, Int.reduceToNat, c13, hK, hL, snapRow]
    refine condW_intro (fun h => ?_) (fun h => ?_)
    · have h : i < a3.length := by simpa using h
      have e1 : a3[i]? = some a3[i] := by simp [h]
      have e2 : b3[i]? = some b3[i] := by simp [← hl, h]
      simp -implicitDefEqProofs -dsimp only [go_sem, reduceIte, reduceCtorEq, Nat.reduceAdd, Nat.reduceMul, Nat.reduceSub, Nat.reduceDiv, Nat.reduceLT, Nat.reduceLeDiff, Nat.reduceEqDiff, Nat.reduceBEq, Int.reduceToNat, c13, hK, hL, e1, e2, ← hl, h]
      refine condW_intro (fun h2 => ?_) (fun h2 => ?_)
      · simp -implicitDefEqProofs -dsimp only [go_sem, reduceIte, reduceCtorEq, Nat.reduceAdd, Nat.reduceMul, Nat.reduceSub, Nat.reduceDiv, Nat.reduceLT, Nat.reduceLeDiff, Nat.reduceEqDiff, Nat.reduceBEq, Int.reduceToNat, c13, hK, hL]
        have : ¬ a3 = b3 := by intro e; subst e; simp at h2
        simp [this]
      · simp -implicitDefEqProofs -dsimp only [go_sem, reduceIte, reduceCtorEq, Nat.reduceAdd, Nat.reduceMul, Nat.reduceSub, Nat.reduceDiv, Nat.reduceLT, Nat.reduceLeDiff, Nat.reduceEqDiff, Nat.reduceBEq, Int.reduceToNat, c13, hK, hL]
        have hl2 : a3[i].length = b3[i].length := by simpa using h2
        refine LoopW.intro (fun n2 s => ∃ k : Nat, n2 + k = a3[i].length ∧ (∀ j, j < k → a3[i][j]? = b3[i][j]?) ∧ s = [(2, .one (.ptr 5002 0), 0), (3, .one (.ptr 5003 0), 0), (5, .one (.sc (.int .i64 i)), 0), (6, .one (.sc (.int .i64 k)), 0),
          (5002, .agg (snapRow K ⟨a1, a2, a3, a4, a5, a6, a7⟩), 0), (5003, .agg (snapRow L ⟨a1, a2, b3, a4, a5, a6, a7⟩), 0)]) ?_ a3[i].length ?_
        · rintro n2 s ⟨k, hk, hkj, rfl⟩
          simp -implicitDefEqProofs -dsimp only [go_sem, reduceIte, reduceCtorEq, Nat.reduceAdd, Nat.reduceMul, Nat.reduceSub, Nat.reduceDiv, Nat.reduceLT, Nat.reduceLeDiff, Nat.reduceEqDiff, Nat.reduceBEq, Int.reduceToNat, c13, hK, hL, snapRow, e1, e2, ← hl, h]
          refine condW_intro (fun h3 => ?_) (fun h3 => ?_)
          · have h3 : k < a3[i].length := by simpa using h3
            have f1 : a3[i][k]? = some a3[i][k] := by simp [h3]
            have f2 : b3[i][k]? = some b3[i][k] := by simp [← hl2, h3]
            simp -implicitDefEqProofs -dsimp only [go_sem, reduceIte, reduceCtorEq, Nat.reduceAdd, Nat.reduceMul, Nat.reduceSub, Nat.reduceDiv, Nat.reduceLT, Nat.reduceLeDiff, Nat.reduceEqDiff, Nat.reduceBEq, Int.reduceToNat, c13, hK, hL, e1, e2, ← hl, h, ← hl2, h3, f1, f2]
            refine condW_intro (fun h4 => ?_) (fun h4 => ?_)
            · simp -implicitDefEqProofs -dsimp only [go_sem, reduceIte, reduceCtorEq, Nat.reduceAdd, Nat.reduceMul, Nat.reduceSub, Nat.reduceDiv, Nat.reduceLT, Nat.reduceLeDiff, Nat.reduceEqDiff, Nat.reduceBEq, Int.reduceToNat, c13, hK, hL]
              have : ¬ a3 = b3 := by intro e; subst e; simp at h4
              simp [this]
            · have h4 : a3[i][k] = b3[i][k] := by
                have := h4
                simp at this
                exact Prod.ext this.1 this.2
              have hs := z8 a3[i] (by simp)
              simp -implicitDefEqProofs -dsimp only [go_sem, reduceIte, reduceCtorEq, Nat.reduceAdd, Nat.reduceMul, Nat.reduceSub, Nat.reduceDiv, Nat.reduceLT, Nat.reduceLeDiff, Nat.reduceEqDiff, Nat.reduceBEq, Int.reduceToNat, c13, hK, hL, wS (show k < 4611686018427387904 by omega)]
              refine ⟨n2 - 1, by omega, k + 1, by omega, fun j hj2 => ?_, rfl⟩
              by_cases e : j = k
              · subst e; rw [f1, f2, h4]
              · exact hkj j (by omega)
          · have h3 : ¬ k < a3[i].length := by simpa using h3
            have h5 : a3[i] = b3[i] := by
              apply List.ext_getElem? ; intro j
              by_cases hh : j < k
              · exact hkj j hh
              · rw [List.getElem?_eq_none (by omega), List.getElem?_eq_none (by omega)]
            simp -implicitDefEqProofs -dsimp only [go_sem, reduceIte, reduceCtorEq, Nat.reduceAdd, Nat.reduceMul, Nat.reduceSub, Nat.reduceDiv, Nat.reduceLT, Nat.reduceLeDiff, Nat.reduceEqDiff, Nat.reduceBEq, Int.reduceToNat, c13, hK, hL, wS (show i < 4611686018427387904 by omega)]
            refine ⟨n - 1, by omega, i + 1, by omega, fun j hj2 => ?_, rfl⟩
            by_cases e : j = i
            · subst e; rw [e1, e2, h5]
            · exact hj j (by omega)
        · simp -implicitDefEqProofs -dsimp only [go_sem, reduceIte, reduceCtorEq, Nat.reduceAdd, Nat.reduceMul, Nat.reduceSub, Nat.reduceDiv, Nat.reduceLT, Nat.reduceLeDiff, Nat.reduceEqDiff, Nat.reduceBEq, Int.reduceToNat, c13]
          exact ⟨0, by simp, by simp, rfl⟩
    · have h : ¬ i < a3.length := by simpa using h
      simp -implicitDefEqProofs -dsimp only [go_sem, reduceIte, reduceCtorEq, Nat.reduceAdd, Nat.reduceMul, Nat.reduceSub, Nat.reduceDiv, Nat.reduceLT, Nat.reduceLeDiff, Nat.reduceEqDiff, Nat.reduceBEq, Int.reduceToNat, c13, hK, hL]
      have : a3 = b3 := by
        apply List.ext_getElem? ; intro j
        by_cases hh : j < i
        · exact hj j hh
        · rw [List.getElem?_eq_none (by omega), List.getElem?_eq_none (by omega)]
      simp [this]
  · simp -implicitDefEqProofs -dsimp only [go_sem, reduceIte, reduceCtorEq, Nat.reduceAdd, Nat.reduceMul, Nat.reduceSub, Nat.reduceDiv, Nat.reduceLT, Nat.reduceLeDiff, Nat.reduceEqDiff, Nat.reduceBEq, Int.reduceToNat, c13]
    exact ⟨0, by simp, by simp, rfl⟩
end Pv

set_option maxRecDepth 100000
set_option linter.unusedVariables false
set_option linter.unusedSimpArgs false
namespace Pv
open Go
def newSnap (v : List Int) : Snap := ⟨v, List.replicate v.length 0, List.replicate (v.length * v.length) [], List.replicate v.length (-1), List.replicate v.length 0, List.replicate (v.length * v.length) false, List.replicate (v.length * v.length) []⟩
def noSnap : Snap := ⟨[], [], [], [], [], [], []⟩
def own : Nat → Lab := fun _ => .own
def newF (v : List Int) : Snap × Int := if 1 ≤ v.length ∧ v.length ≤ 5 then (newSnap v, 0) else (noSnap, 3)
def encR (x : Snap × Int) : Pv.T × List (List V) := (.tup [.agg (snapRow own x.1), .one (.sc (.int .i64 x.2))], [])
theorem repS {k : Nat} : List.replicate k [V.sl .own 2 []] = (List.replicate k []).map (encS .own 2 encP) := by simp [encS]
theorem repL {k : Nat} : List.replicate k [V.sl .own 1 []] = (List.replicate k []).map (encS .own 1 encI) := by simp [encS]
set_option maxHeartbeats 8000000
theorem new1_ok {T : Nat → Option Fn} (h11 : T 11 = some c11) (v : List Int) (l : Lab) (hl : l ≠ .own) (hv : v.length < 4611686018427387904) : EvF T 11 [] [.one (.sl l 1 (v.map encI))] [] (encR (newF v)) := by
  refine EvF.run h11 ?_
  simp -implicitDefEqProofs -dsimp only [go_sem, reduceIte, reduceCtorEq, Nat.reduceAdd, Nat.reduceMul, Nat.reduceSub, Nat.reduceDiv, Nat.reduceLT, Nat.reduceLeDiff, Nat.reduceEqDiff, Nat.reduceBEq, Int.reduceToNat, c11, hl]
  by_cases h1 : 1 ≤ v.length
  case neg =>
    have e1 : ((v.length : Int) < 1) = True := by simp; omega
    simp -implicitDefEqProofs -dsimp only [go_sem, reduceIte, reduceCtorEq, Nat.reduceAdd, Nat.reduceMul, Nat.reduceSub, Nat.reduceDiv, Nat.reduceLT, Nat.reduceLeDiff, Nat.reduceEqDiff, Nat.reduceBEq, Int.reduceToNat, c11, hl, e1]
    have : newF v = (noSnap, 3) := by simp [newF, h1]
    rw [this]; rfl
  have e1 : ((v.length : Int) < 1) = False := by simp; omega
  simp -implicitDefEqProofs -dsimp only [go_sem, reduceIte, reduceCtorEq, Nat.reduceAdd, Nat.reduceMul, Nat.reduceSub, Nat.reduceDiv, Nat.reduceLT, Nat.reduceLeDiff, Nat.reduceEqDiff, Nat.reduceBEq, Int.reduceToNat, c11, hl, e1]
  by_cases h2 : v.length ≤ 5
  case neg =>
    have e2 : ((5 : Int) < v.length) = True := by simp; omega
    simp -implicitDefEqProofs -dsimp only [go_sem, reduceIte, reduceCtorEq, Nat.reduceAdd, Nat.reduceMul, Nat.reduceSub, Nat.reduceDiv, Nat.reduceLT, Nat.reduceLeDiff, Nat.reduceEqDiff, Nat.reduceBEq, Int.reduceToNat, c11, hl, e2]
    have : newF v = (noSnap, 3) := by simp [newF, h2]
    rw [this]; rfl
  have e2 : ((5 : Int) < v.length) = False := by simp; omega
  have hq : v.length * v.length ≤ 25 := Nat.mul_le_mul h2 h2
  have ew : IntKind.i64.wrap ((v.length : Int) * v.length) = ((v.length * v.length : Nat) : Int) := by
    rw [← Int.natCast_mul]; exact w64 (by omega) (by omega)
  have m1 : ((v.length : Int) * ((8 : Nat) : Int) ≤ 2 ^ 47) = True := eq_true (by omega)
  have m2 : (((v.length * v.length : Nat) : Int) * ((24 : Nat) : Int) ≤ 2 ^ 47) = True := eq_true (by omega)
  have m3 : (((v.length * v.length : Nat) : Int) * ((1 : Nat) : Int) ≤ 2 ^ 47) = True := eq_true (by omega)
  have m4 : ((0 + v.length) * 8 ≤ 2 ^ 47) = True := eq_true (by omega)
  have m5 : ((v.length) * 8 ≤ 2 ^ 47) = True := eq_true (by omega)
  simp -implicitDefEqProofs -dsimp only [go_sem, reduceIte, reduceCtorEq, Nat.reduceAdd, Nat.reduceMul, Nat.reduceSub, Nat.reduceDiv, Nat.reduceLT, Nat.reduceLeDiff, Nat.reduceEqDiff, Nat.reduceBEq, Int.reduceToNat, c11, hl, e2, ew, m1, m2, m3, m4, m5, repS, repL]
  refine LoopW.intro (fun n s => ∃ i : Nat, n + i = v.length ∧ s = [(2, .one (.ptr 5002 0), 0), (5, .one (.ptr 5005 0), 0), (39, .one (.sc (.int .i64 v.length)), 0), (40, .one (.sc (.int .i64 i)), 0),
    (5002, .agg (snapRow own noSnap), 0), (5005, .agg (snapRow own { newSnap v with cut := List.replicate i (-1) ++ List.replicate n 0 }), 0)]) ?_ v.length ?_
  · rintro n s ⟨i, hi, rfl⟩
    simp -implicitDefEqProofs -dsimp only [go_sem, reduceIte, reduceCtorEq, Nat.reduceAdd, Nat.reduceMul, Nat.reduceSub, Nat.reduceDiv, Nat.reduceLT, Nat.reduceLeDiff, Nat.reduceEqDiff, Nat.reduceBEq, Int.reduceToNat, c11, snapRow, newSnap, own, noSnap]
    refine condW_intro (fun h => ?_) (fun h => ?_)
    · have h : i < v.length := by simpa using h
      obtain ⟨k, rfl⟩ : ∃ k, n = k + 1 := ⟨n - 1, by omega⟩
      have g1 : (i < i + (k + 1)) = True := eq_true (by omega)
      have g2 : (List.replicate i (-1 : Int) ++ List.replicate (k + 1) 0)[i]? = some 0 := by
        rw [List.getElem?_append_right (by simp)]; simp
      have g3 : (List.replicate i (-1 : Int) ++ List.replicate (k + 1) 0).set i (-1) = List.replicate (i + 1) (-1) ++ List.replicate k 0 := by
        rw [List.set_append_right _ _ (by simp), List.replicate_succ, List.replicate_succ' (n := i)]; simp
      simp -implicitDefEqProofs -dsimp only [go_sem, reduceIte, reduceCtorEq, Nat.reduceAdd, Nat.reduceMul, Nat.reduceSub, Nat.reduceDiv, Nat.reduceLT, Nat.reduceLeDiff, Nat.reduceEqDiff, Nat.reduceBEq, Int.reduceToNat, c11, g1, g2, g3, wS (show i < 4611686018427387904 by omega)]
      exact ⟨k, by omega, i + 1, by omega, rfl⟩
    · have h : ¬ i < v.length := by simpa using h
      obtain rfl : n = 0 := by omega
      simp -implicitDefEqProofs -dsimp only [go_sem, reduceIte, reduceCtorEq, Nat.reduceAdd, Nat.reduceMul, Nat.reduceSub, Nat.reduceDiv, Nat.reduceLT, Nat.reduceLeDiff, Nat.reduceEqDiff, Nat.reduceBEq, Int.reduceToNat, c11]
      have e3 : newF v = (newSnap v, 0) := by simp [newF, h1, h2]
      have e4 : i = v.length := by omega
      rw [e3, e4]
      simp [encR, snapRow, newSnap, own]
  · simp -implicitDefEqProofs -dsimp only [go_sem, reduceIte, reduceCtorEq, Nat.reduceAdd, Nat.reduceMul, Nat.reduceSub, Nat.reduceDiv, Nat.reduceLT, Nat.reduceLeDiff, Nat.reduceEqDiff, Nat.reduceBEq, Int.reduceToNat, c11]
    refine ⟨0, by omega, ?_⟩
    simp [snapRow, newSnap, own, noSnap]
theorem new2_ok {T : Nat → Option Fn} (h12 : T 12 = some c12) (v : List Int) (l : Lab) (hl : l ≠ .own) (hv : v.length < 4611686018427387904) : EvF T 12 [] [.one (.sl l 1 (v.map encI))] [] (encR (newF v)) := by
  refine EvF.run h12 ?_
  simp -implicitDefEqProofs -dsimp only [go_sem, reduceIte, reduceCtorEq, Nat.reduceAdd, Nat.reduceMul, Nat.reduceSub, Nat.reduceDiv, Nat.reduceLT, Nat.reduceLeDiff, Nat.reduceEqDiff, Nat.reduceBEq, Int.reduceToNat, c12, hl]
  by_cases h1 : 1 ≤ v.length
  case neg =>
    have e1 : ((v.length : Int) < 1) = True := by simp; omega
    simp -implicitDefEqProofs -dsimp only [go_sem, reduceIte, reduceCtorEq, Nat.reduceAdd, Nat.reduceMul, Nat.reduceSub, Nat.reduceDiv, Nat.reduceLT, Nat.reduceLeDiff, Nat.reduceEqDiff, Nat.reduceBEq, Int.reduceToNat, c12, hl, e1]
    have : newF v = (noSnap, 3) := by simp [newF, h1]
    rw [this]; rfl
  have e1 : ((v.length : Int) < 1) = False := by simp; omega
  simp -implicitDefEqProofs -dsimp only [go_sem, reduceIte, reduceCtorEq, Nat.reduceAdd, Nat.reduceMul, Nat.reduceSub, Nat.reduceDiv, Nat.reduceLT, Nat.reduceLeDiff, Nat.reduceEqDiff, Nat.reduceBEq, Int.reduceToNat, c12, hl, e1]
  by_cases h2 : v.length ≤ 5
  case neg =>
    have e2 : ((5 : Int) < v.length) = True := by simp; omega
    simp -implicitDefEqProofs -dsimp only [go_sem, reduceIte, reduceCtorEq, Nat.reduceAdd, Nat.reduceMul, Nat.reduceSub, Nat.reduceDiv, Nat.reduceLT, Nat.reduceLeDiff, Nat.reduceEqDiff, Nat.reduceBEq, Int.reduceToNat, c12, hl, e2]
    have : newF v = (noSnap, 3) := by simp [newF, h2]
    rw [this]; rfl
  have e2 : ((5 : Int) < v.length) = False := by simp; omega
  have hq : v.length * v.length ≤ 25 := Nat.mul_le_mul h2 h2
  have ew : IntKind.i64.wrap ((v.length : Int) * v.length) = ((v.length * v.length : Nat) : Int) := by
    rw [← Int.natCast_mul]; exact w64 (by omega) (by omega)
  have m1 : ((v.length : Int) * ((8 : Nat) : Int) ≤ 2 ^ 47) = True := eq_true (by omega)
  have m2 : (((v.length * v.length : Nat) : Int) * ((24 : Nat) : Int) ≤ 2 ^ 47) = True := eq_true (by omega)
  have m3 : (((v.length * v.length : Nat) : Int) * ((1 : Nat) : Int) ≤ 2 ^ 47) = True := eq_true (by omega)
  have m4 : ((0 + v.length) * 8 ≤ 2 ^ 47) = True := eq_true (by omega)
  have m5 : ((v.length) * 8 ≤ 2 ^ 47) = True := eq_true (by omega)
  simp -implicitDefEqProofs -dsimp only [go_sem, reduceIte, reduceCtorEq, Nat.reduceAdd, Nat.reduceMul, Nat.reduceSub, Nat.reduceDiv, Nat.reduceLT, Nat.reduceLeDiff, Nat.reduceEqDiff, Nat.reduceBEq, Int.reduceToNat, c12, hl, e2, ew, m1, m2, m3, m4, m5, repS, repL]
  refine LoopW.intro (fun n s => ∃ i : Nat, n + i = v.length ∧ s = [(2, .one (.ptr 5002 0), 0), (4, .one (.sc (.int .i64 v.length)), 0), (5, .one (.ptr 5005 0), 0), (6, .one (.sc (.int .i64 i)), 0),
    (5002, .agg (snapRow own noSnap), 0), (5005, .agg (snapRow own { newSnap v with cut := List.replicate i (-1) }), 0)]) ?_ v.length ?_
  · rintro n s ⟨i, hi, rfl⟩
    simp -implicitDefEqProofs -dsimp only [go_sem, reduceIte, reduceCtorEq, Nat.reduceAdd, Nat.reduceMul, Nat.reduceSub, Nat.reduceDiv, Nat.reduceLT, Nat.reduceLeDiff, Nat.reduceEqDiff, Nat.reduceBEq, Int.reduceToNat, c12, snapRow, newSnap, own, noSnap]
    refine condW_intro (fun h => ?_) (fun h => ?_)
    · have h : i < v.length := by simpa using h
      have g1 : ((i + 1) * 8 ≤ 2 ^ 47) = True := eq_true (by omega)
      simp -implicitDefEqProofs -dsimp only [go_sem, reduceIte, reduceCtorEq, Nat.reduceAdd, Nat.reduceMul, Nat.reduceSub, Nat.reduceDiv, Nat.reduceLT, Nat.reduceLeDiff, Nat.reduceEqDiff, Nat.reduceBEq, Int.reduceToNat, c12, g1, wS (show i < 4611686018427387904 by omega)]
      refine ⟨n - 1, by omega, i + 1, by omega, ?_⟩
      simp [snapRow, newSnap, own, noSnap, List.replicate_succ', encI]
    · have h : ¬ i < v.length := by simpa using h
      simp -implicitDefEqProofs -dsimp only [go_sem, reduceIte, reduceCtorEq, Nat.reduceAdd, Nat.reduceMul, Nat.reduceSub, Nat.reduceDiv, Nat.reduceLT, Nat.reduceLeDiff, Nat.reduceEqDiff, Nat.reduceBEq, Int.reduceToNat, c12]
      have e3 : newF v = (newSnap v, 0) := by simp [newF, h1, h2]
      have e4 : i = v.length := by omega
      rw [e3, e4]
      simp [encR, snapRow, newSnap, own]
  · simp -implicitDefEqProofs -dsimp only [go_sem, reduceIte, reduceCtorEq, Nat.reduceAdd, Nat.reduceMul, Nat.reduceSub, Nat.reduceDiv, Nat.reduceLT, Nat.reduceLeDiff, Nat.reduceEqDiff, Nat.reduceBEq, Int.reduceToNat, c12]
    refine ⟨0, by omega, ?_⟩
    simp [snapRow, newSnap, own, noSnap]
end Pv

set_option maxRecDepth 100000
set_option linter.unusedVariables false
set_option linter.unusedSimpArgs false
namespace Pv
open Go
structure Whole (k : Nat) (s : Snap) : Prop where
  n1 : 1 ≤ s.values.length
  n5 : s.values.length ≤ 5
  co : s.counts.length = s.values.length
  cu : s.cut.length = s.values.length
  sa : s.saved.length = s.values.length
  ch : s.chans.length = s.values.length * s.values.length
  op : s.opn.length = s.values.length * s.values.length
  re : s.record.length = s.values.length * s.values.length
  chk : ∀ x ∈ s.chans, x.length ≤ k
  rek : ∀ x ∈ s.record, x.length ≤ k
set_option maxHeartbeats 8000000
theorem isWhole_ok {T : Nat → Option Fn} (h32 : T 32 = some c32) {k : Nat} {s : Snap} (hs : Whole k s) (L : Nat → Lab) (hL : ∀ i, L i ≠ .own) :
    EvF T 32 [] [.agg (snapRow L s)] [] (.one (.sc (.bool true)), []) := by
  obtain ⟨n1, n5, co, cu, sa, ch, op, re, _, _⟩ := hs
  refine EvF.run h32 ?_
  have e1 : ((s.values.length : Int) < 1) = False := by simp; omega
  have e2 : ((5 : Int) < s.values.length) = False := by simp; omega
  have hq : s.values.length * s.values.length ≤ 25 := Nat.mul_le_mul n5 n5
  have ew : IntKind.i64.wrap ((s.values.length : Int) * s.values.length) = ((s.values.length * s.values.length : Nat) : Int) := by
    rw [← Int.natCast_mul]; exact w64 (by omega) (by omega)
  simp -implicitDefEqProofs -dsimp only [go_sem, reduceIte, reduceCtorEq, Nat.reduceAdd, Nat.reduceMul, Nat.reduceSub, Nat.reduceDiv, Nat.reduceLT, Nat.reduceLeDiff, Nat.reduceEqDiff, Nat.reduceBEq, Nat.reduceBNe, Int.reduceToNat, Int.reduceEq, Int.reduceLT, Int.reduceLE, Int.reduceNeg, c32, snapRow, hL, e1, e2, ew, co, cu, sa, ch, op, re]
theorem is_ok {T : Nat → Option Fn} (h33 : T 33 = some c33) (p : Int) (n : Nat) :
    EvF T 33 [] [.one (.sc (.int .i64 p)), .one (.ptr 10000 0)] [[.sc (.int .i64 n)]] (.one (.sc (.bool (decide (0 ≤ p ∧ p < n)))), [[.sc (.int .i64 n)]]) := by
  refine EvF.run h33 ?_
  by_cases h : 0 ≤ p
  · simp -implicitDefEqProofs -dsimp only [go_sem, reduceIte, reduceCtorEq, Nat.reduceAdd, Nat.reduceMul, Nat.reduceSub, Nat.reduceDiv, Nat.reduceLT, Nat.reduceLeDiff, Nat.reduceEqDiff, Nat.reduceBEq, Nat.reduceBNe, Int.reduceToNat, Int.reduceEq, Int.reduceLT, Int.reduceLE, Int.reduceNeg, c33, h]
  · simp -implicitDefEqProofs -dsimp only [go_sem, reduceIte, reduceCtorEq, Nat.reduceAdd, Nat.reduceMul, Nat.reduceSub, Nat.reduceDiv, Nat.reduceLT, Nat.reduceLeDiff, Nat.reduceEqDiff, Nat.reduceBEq, Nat.reduceBNe, Int.reduceToNat, Int.reduceEq, Int.reduceLT, Int.reduceLE, Int.reduceNeg, c33, h]
theorem clone_ok {T : Nat → Option Fn} (h34 : T 34 = some c34) {k : Nat} {s : Snap} (hs : Whole k s) (hk : k ≤ 1000000) (L : Nat → Lab) (hL : ∀ i, L i ≠ .own) :
    EvF T 34 [] [.agg (snapRow L s)] [] (.agg (snapRow own s), []) := by
  obtain ⟨n1, n5, co, cu, sa, ch, op, re, chk, rek⟩ := hs
  obtain ⟨a1, a2, a3, a4, a5, a6, a7⟩ := s
  simp only at n1 n5 co cu sa ch op re chk rek
  refine EvF.run h34 ?_
  have hq : a1.length * a1.length ≤ 25 := Nat.mul_le_mul n5 n5
  have m1 : (a1.length * 8 ≤ 2 ^ 47) = True := eq_true (by omega)
  have m2 : (a1.length * a1.length * 1 ≤ 2 ^ 47) = True := eq_true (by omega)
  simp -implicitDefEqProofs -dsimp only [go_sem, reduceIte, reduceCtorEq, Nat.reduceAdd, Nat.reduceMul, Nat.reduceSub, Nat.reduceDiv, Nat.reduceLT, Nat.reduceLeDiff, Nat.reduceEqDiff, Nat.reduceBEq, Nat.reduceBNe, Int.reduceToNat, Int.reduceEq, Int.reduceLT, Int.reduceLE, Int.reduceNeg, c34, snapRow, hL, co, cu, sa, ch, op, re, m1, m2]
  refine LoopW.intro (fun n t => ∃ i : Nat, n + i = a1.length * a1.length ∧ t = [(1, .one (.ptr 5001 0), 0), (2, .one (.ptr 5002 0), 0), (3, .one (.ptr 5003 0), 0), (23, .one (.sc (.int .i64 ((a1.length * a1.length : Nat) : Int))), 0), (24, .one (.sc (.int .i64 i)), 0),
    (5001, .agg (snapRow L ⟨a1, a2, a3, a4, a5, a6, a7⟩), 0), (5002, .agg (snapRow own noSnap), 0), (5003, .agg (snapRow own ⟨a1, a2, a3.take i, a4, a5, a6, a7.take i⟩), 0)]) ?_ (a1.length * a1.length) ?_
  · rintro n t ⟨i, hi, rfl⟩
    simp -implicitDefEqProofs -dsimp only [go_sem, reduceIte, reduceCtorEq, Nat.reduceAdd, Nat.reduceMul, Nat.reduceSub, Nat.reduceDiv, Nat.reduceLT, Nat.reduceLeDiff, Nat.reduceEqDiff, Nat.reduceBEq, Nat.reduceBNe, Int.reduceToNat, Int.reduceEq, Int.reduceLT, Int.reduceLE, Int.reduceNeg, c34, snapRow, own, noSnap, hL]
    refine condW_intro (fun h => ?_) (fun h => ?_)
    · have h : i < a1.length * a1.length := by simpa using h
      have h3 : i < a3.length := by omega
      have h7 : i < a7.length := by omega
      have e3 : a3[i]? = some a3[i] := by simp [h3]
      have e7 : a7[i]? = some a7[i] := by simp [h7]
      have b3 := chk a3[i] (by simp)
      have b7 := rek a7[i] (by simp)
      have m3 : (a3[i].length * 16 ≤ 2 ^ 47) = True := eq_true (by omega)
      have m4 : (a7[i].length * 8 ≤ 2 ^ 47) = True := eq_true (by omega)
      have m5 : (((a3.take i).length + 1) * 24 ≤ 2 ^ 47) = True := eq_true (by simp; omega)
      have m6 : (((a7.take i).length + 1) * 24 ≤ 2 ^ 47) = True := eq_true (by simp; omega)
      have t3 : a3.take i ++ [a3[i]] = a3.take (i + 1) := by simp
      have t7 : a7.take i ++ [a7[i]] = a7.take (i + 1) := by simp
      simp -implicitDefEqProofs -dsimp only [go_sem, reduceIte, reduceCtorEq, Nat.reduceAdd, Nat.reduceMul, Nat.reduceSub, Nat.reduceDiv, Nat.reduceLT, Nat.reduceLeDiff, Nat.reduceEqDiff, Nat.reduceBEq, Nat.reduceBNe, Int.reduceToNat, Int.reduceEq, Int.reduceLT, Int.reduceLE, Int.reduceNeg, c34, hL, e3, e7, h3, h7, m3, m4, m5, m6, t3, t7, wS (show i < 4611686018427387904 by omega)]
      refine ⟨n - 1, by omega, i + 1, by omega, rfl⟩
    · have h : ¬ i < a1.length * a1.length := by simpa using h
      have t3 : a3.take i = a3 := List.take_of_length_le (by omega)
      have t7 : a7.take i = a7 := List.take_of_length_le (by omega)
      simp -implicitDefEqProofs -dsimp only [go_sem, reduceIte, reduceCtorEq, Nat.reduceAdd, Nat.reduceMul, Nat.reduceSub, Nat.reduceDiv, Nat.reduceLT, Nat.reduceLeDiff, Nat.reduceEqDiff, Nat.reduceBEq, Nat.reduceBNe, Int.reduceToNat, Int.reduceEq, Int.reduceLT, Int.reduceLE, Int.reduceNeg, c34, t3, t7]
      rfl
  · simp -implicitDefEqProofs -dsimp only [go_sem, reduceIte, reduceCtorEq, Nat.reduceAdd, Nat.reduceMul, Nat.reduceSub, Nat.reduceDiv, Nat.reduceLT, Nat.reduceLeDiff, Nat.reduceEqDiff, Nat.reduceBEq, Nat.reduceBNe, Int.reduceToNat, Int.reduceEq, Int.reduceLT, Int.reduceLE, Int.reduceNeg, c34]
    refine ⟨0, by omega, ?_⟩
    simp [snapRow, own, noSnap]
end Pv

set_option maxRecDepth 100000
set_option linter.unusedVariables false
set_option linter.unusedSimpArgs false
namespace Pv
open Go
theorem wM {a b : Nat} (h : a * b < 4611686018427387904) : IntKind.i64.wrap ((a : Int) * b) = ((a * b : Nat) : Int) := by
  rw [← Int.natCast_mul]; exact w64 (by omega) (by omega)
theorem wA {a b : Nat} (h : a + b < 4611686018427387904) : IntKind.i64.wrap ((a : Int) + b) = ((a + b : Nat) : Int) := by
  rw [← Int.natCast_add]; exact w64 (by omega) (by omega)
theorem setSet {α : Type} {l : List α} {i : Nat} {a b : α} : (l.set i a).set i b = l.set i b := by simp
theorem getSet {α : Type} {l : List α} {i : Nat} {a : α} (h : i < l.length) : (l.set i a)[i]? = some a := by simp [h]
def addMk (c : List (List (Bool × Int))) (k : Nat) : List (List (Bool × Int)) := c.set k ((c[k]?.getD []) ++ [(true, 0)])
def recTo (n p : Nat) (c : List (List (Bool × Int))) (o : List Bool) : Nat → List (List (Bool × Int)) × List Bool
  | 0 => (c, o)
  | q + 1 => if q = p then recTo n p c o q else (addMk (recTo n p c o q).1 (p * n + q), (recTo n p c o q).2.set (q * n + p) true)
theorem recTo_len {n p : Nat} {c : List (List (Bool × Int))} {o : List Bool} : ∀ q, (recTo n p c o q).1.length = c.length ∧ (recTo n p c o q).2.length = o.length
  | 0 => ⟨rfl, rfl⟩
  | q + 1 => by
    have ih := recTo_len (n := n) (p := p) (c := c) (o := o) q
    unfold recTo
    split
    · exact ih
    · simp [addMk, ih.1, ih.2]
def recF (s : Snap) (p : Nat) : Snap := { s with saved := s.saved.set p (s.values[p]?.getD 0), cut := s.cut.set p (s.counts[p]?.getD 0), chans := (recTo s.values.length p s.chans s.opn s.values.length).1, opn := (recTo s.values.length p s.chans s.opn s.values.length).2 }
theorem recTo_at {n p : Nat} (hp : p < n) {c : List (List (Bool × Int))} {o : List Bool} : ∀ q, q ≤ n → ∀ k, (∀ j, j < q → k ≠ p * n + j) → (recTo n p c o q).1[k]? = c[k]?
  | 0, _, k, _ => rfl
  | q + 1, hq, k, hk => by
    have ih := recTo_at hp (c := c) (o := o) q (by omega) k (fun j hj => hk j (by omega))
    unfold recTo
    split
    · exact ih
    · simp only [addMk]; rw [List.getElem?_set_ne (fun e => hk q (by omega) e.symm)]; exact ih
theorem recTo_small {n p k : Nat} (hp : p < n) {c : List (List (Bool × Int))} {o : List Bool} (hc : ∀ x ∈ c, x.length ≤ k) : ∀ q, q ≤ n → ∀ x ∈ (recTo n p c o q).1, x.length ≤ k + 1
  | 0, _, x, hx => by have := hc x hx; omega
  | q + 1, hq, x, hx => by
    unfold recTo at hx
    split at hx
    · exact recTo_small hp hc q (by omega) x hx
    · simp only [addMk] at hx
      rcases List.mem_or_eq_of_mem_set hx with h | h
      · exact recTo_small hp hc q (by omega) x h
      · rw [h, recTo_at hp q (by omega) _ (fun j hj e => by omega)]
        cases hh : c[p * n + q]? with
        | none => simp
        | some y => have := hc y (List.mem_of_getElem? hh); simp; omega
set_option maxHeartbeats 8000000
theorem rec1_ok {T : Nat → Option Fn} (h35 : T 35 = some c35) {k : Nat} {s : Snap} (hs : Whole k s) (hk : k ≤ 1000000) {p : Nat} (hp : p < s.values.length) :
    EvF T 35 [0] [.agg [], .one (.sc (.int .i64 p))] [snapRow own s] (.tup [], [snapRow own (recF s p)]) := by
  obtain ⟨n1, n5, co, cu, sa, ch, op, re, chk, rek⟩ := hs
  obtain ⟨a1, a2, a3, a4, a5, a6, a7⟩ := s
  simp only at n1 n5 co cu sa ch op re chk rek hp
  refine EvF.run h35 ?_
  have hq : a1.length * a1.length ≤ 25 := Nat.mul_le_mul n5 n5
  have e1 : a1[p]? = some a1[p] := by simp [hp]
  have e2 : a2[p]? = some a2[p] := by simp [co, hp]
  have e4 : a4[p]? = some a4[p] := by simp [cu, hp]
  have e5 : a5[p]? = some a5[p] := by simp [sa, hp]
  simp -implicitDefEqProofs -dsimp only [go_sem, reduceIte, reduceCtorEq, Nat.reduceAdd, Nat.reduceMul, Nat.reduceSub, Nat.reduceDiv, Nat.reduceLT, Nat.reduceLeDiff, Nat.reduceEqDiff, Nat.reduceBEq, Nat.reduceBNe, Int.reduceToNat, c35, snapRow, own, co, cu, sa, ch, op, re, hp, e1, e2, e4, e5]
  have key : ∀ q, q ≤ a1.length → (recTo a1.length p a3 a6 q).1.length = a1.length * a1.length ∧ (recTo a1.length p a3 a6 q).2.length = a1.length * a1.length := by
    intro q _
    have := recTo_len (n := a1.length) (p := p) (c := a3) (o := a6) q
    omega
  refine LoopW.intro (fun n t => ∃ q : Nat, n + q = a1.length ∧ t = [(1, .one (.sc (.int .i64 p)), 0), (2, .one (.ptr 5002 0), 0), (4, .one (.sc (.int .i64 a1.length)), 0), (29, .one (.sc (.int .i64 a1.length)), 0), (30, .one (.sc (.int .i64 q)), 0),
    (5002, .agg (snapRow own ⟨a1, a2, (recTo a1.length p a3 a6 q).1, a4.set p a2[p], a5.set p a1[p], (recTo a1.length p a3 a6 q).2, a7⟩), 0)]) ?_ a1.length ?_
  · rintro n t ⟨q, hi, rfl⟩
    obtain ⟨r3, r6⟩ := key q (by omega)
    have hsm := recTo_small (k := k) hp (o := a6) chk q (by omega)
    generalize hR : recTo a1.length p a3 a6 q = R at r3 r6 hsm
    obtain ⟨c, o⟩ := R
    simp only at r3 r6 hsm
    simp -implicitDefEqProofs -dsimp only [go_sem, reduceIte, reduceCtorEq, Nat.reduceAdd, Nat.reduceMul, Nat.reduceSub, Nat.reduceDiv, Nat.reduceLT, Nat.reduceLeDiff, Nat.reduceEqDiff, Nat.reduceBEq, Nat.reduceBNe, Int.reduceToNat, c35, snapRow, own]
    refine condW_intro (fun h => ?_) (fun h => ?_)
    · have h : q < a1.length := by simpa using h
      simp -implicitDefEqProofs -dsimp only [go_sem, reduceIte, reduceCtorEq, Nat.reduceAdd, Nat.reduceMul, Nat.reduceSub, Nat.reduceDiv, Nat.reduceLT, Nat.reduceLeDiff, Nat.reduceEqDiff, Nat.reduceBEq, Nat.reduceBNe, Int.reduceToNat, c35]
      by_cases hqp : q = p
      · simp -implicitDefEqProofs -dsimp only [go_sem, reduceIte, reduceCtorEq, Nat.reduceAdd, Nat.reduceMul, Nat.reduceSub, Nat.reduceDiv, Nat.reduceLT, Nat.reduceLeDiff, Nat.reduceEqDiff, Nat.reduceBEq, Nat.reduceBNe, Int.reduceToNat, c35, hqp, wS (show p < 4611686018427387904 by omega)]
        refine ⟨n - 1, by omega, p + 1, by omega, ?_⟩
        subst hqp
        simp only [recTo, if_true, hR]
        rfl
      · have h1 : p * a1.length + q < a1.length * a1.length := by
          have : p * a1.length + a1.length ≤ a1.length * a1.length := by
            have := Nat.mul_le_mul_right a1.length (show p + 1 ≤ a1.length by omega)
            rw [Nat.succ_mul] at this; exact this
          omega
        have h2 : q * a1.length + p < a1.length * a1.length := by
          have : q * a1.length + a1.length ≤ a1.length * a1.length := by
            have := Nat.mul_le_mul_right a1.length (show q + 1 ≤ a1.length by omega)
            rw [Nat.succ_mul] at this; exact this
          omega
        have e3 : c[p * a1.length + q]? = some c[p * a1.length + q] := by simp [r3, h1]
        have e6 : o[q * a1.length + p]? = some o[q * a1.length + p] := by simp [r6, h2]
        have b3 := hsm c[p * a1.length + q] (by simp)
        have m1 : ((c[p * a1.length + q].length + 1) * 16 ≤ 2 ^ 47) = True := eq_true (by omega)
        have w1 := wM (a := p) (b := a1.length) (by omega)
        have w2 := wM (a := q) (b := a1.length) (by omega)
        have w3 := wA (a := p * a1.length) (b := q) (by omega)
        have w4 := wA (a := q * a1.length) (b := p) (by omega)
        have g1 : ∀ x, (c.map (encS .own 2 encP)).set (p * a1.length + q) x = (c.map (encS .own 2 encP)).set (p * a1.length + q) x := fun x => rfl
        have g2 : ∀ x : List V, ((c.map (encS .own 2 encP)).set (p * a1.length + q) x)[p * a1.length + q]? = some x := fun x => getSet (by simp [r3, h1])
        simp -implicitDefEqProofs -dsimp only [go_sem, reduceIte, reduceCtorEq, Nat.reduceAdd, Nat.reduceMul, Nat.reduceSub, Nat.reduceDiv, Nat.reduceLT, Nat.reduceLeDiff, Nat.reduceEqDiff, Nat.reduceBEq, Nat.reduceBNe, Int.reduceToNat, c35, hqp, w1, w2, w3, w4, r3, r6, h1, h2, e3, e6, m1, g2, setSet, wS (show q < 4611686018427387904 by omega)]
        refine ⟨n - 1, by omega, q + 1, by omega, ?_⟩
        simp only [recTo, if_neg hqp, hR, addMk, e3, Option.getD_some]
        rfl
    · have h : ¬ q < a1.length := by simpa using h
      simp -implicitDefEqProofs -dsimp only [go_sem, reduceIte, reduceCtorEq, Nat.reduceAdd, Nat.reduceMul, Nat.reduceSub, Nat.reduceDiv, Nat.reduceLT, Nat.reduceLeDiff, Nat.reduceEqDiff, Nat.reduceBEq, Nat.reduceBNe, Int.reduceToNat, c35]
      have eq : q = a1.length := by omega
      subst eq
      simp -implicitDefEqProofs -dsimp only [go_sem, reduceIte, reduceCtorEq, Nat.reduceAdd, Nat.reduceMul, Nat.reduceSub, Nat.reduceDiv, Nat.reduceLT, Nat.reduceLeDiff, Nat.reduceEqDiff, Nat.reduceBEq, Nat.reduceBNe, Int.reduceToNat, c35, recF, snapRow, hR, e1, e2, Option.getD_some, own]
  · simp -implicitDefEqProofs -dsimp only [go_sem, reduceIte, reduceCtorEq, Nat.reduceAdd, Nat.reduceMul, Nat.reduceSub, Nat.reduceDiv, Nat.reduceLT, Nat.reduceLeDiff, Nat.reduceEqDiff, Nat.reduceBEq, Nat.reduceBNe, Int.reduceToNat, c35]
    exact ⟨0, by omega, rfl⟩
theorem rec2_ok {T : Nat → Option Fn} (h38 : T 38 = some c38) {k : Nat} {s : Snap} (hs : Whole k s) (hk : k ≤ 1000000) {p : Nat} (hp : p < s.values.length) :
    EvF T 38 [] [.one (.ptr 10000 0), .one (.sc (.int .i64 p))] [snapRow own s] (.tup [], [snapRow own (recF s p)]) := by
  obtain ⟨n1, n5, co, cu, sa, ch, op, re, chk, rek⟩ := hs
  obtain ⟨a1, a2, a3, a4, a5, a6, a7⟩ := s
  simp only at n1 n5 co cu sa ch op re chk rek hp
  refine EvF.run h38 ?_
  have hq : a1.length * a1.length ≤ 25 := Nat.mul_le_mul n5 n5
  have e1 : a1[p]? = some a1[p] := by simp [hp]
  have e2 : a2[p]? = some a2[p] := by simp [co, hp]
  have e4 : a4[p]? = some a4[p] := by simp [cu, hp]
  have e5 : a5[p]? = some a5[p] := by simp [sa, hp]
  simp -implicitDefEqProofs -dsimp only [go_sem, reduceIte, reduceCtorEq, Nat.reduceAdd, Nat.reduceMul, Nat.reduceSub, Nat.reduceDiv, Nat.reduceLT, Nat.reduceLeDiff, Nat.reduceEqDiff, Nat.reduceBEq, Nat.reduceBNe, Int.reduceToNat, c38, snapRow, own, co, cu, sa, ch, op, re, hp, e1, e2, e4, e5]
  have key : ∀ q, q ≤ a1.length → (recTo a1.length p a3 a6 q).1.length = a1.length * a1.length ∧ (recTo a1.length p a3 a6 q).2.length = a1.length * a1.length := by
    intro q _
    have := recTo_len (n := a1.length) (p := p) (c := a3) (o := a6) q
    omega
  refine LoopW.intro (fun n t => ∃ q : Nat, n + q = a1.length ∧ t = [(0, .one (.ptr 10000 0), 0), (1, .one (.sc (.int .i64 p)), 0), (4, .one (.sc (.int .i64 a1.length)), 0), (5, .one (.sc (.int .i64 q)), 0),
    (10000, .agg (snapRow own ⟨a1, a2, (recTo a1.length p a3 a6 q).1, a4.set p a2[p], a5.set p a1[p], (recTo a1.length p a3 a6 q).2, a7⟩), 0)]) ?_ a1.length ?_
  · rintro n t ⟨q, hi, rfl⟩
    obtain ⟨r3, r6⟩ := key q (by omega)
    have hsm := recTo_small (k := k) hp (o := a6) chk q (by omega)
    generalize hR : recTo a1.length p a3 a6 q = R at r3 r6 hsm
    obtain ⟨c, o⟩ := R
    simp only at r3 r6 hsm
    simp -implicitDefEqProofs -dsimp only [go_sem, reduceIte, reduceCtorEq, Nat.reduceAdd, Nat.reduceMul, Nat.reduceSub, Nat.reduceDiv, Nat.reduceLT, Nat.reduceLeDiff, Nat.reduceEqDiff, Nat.reduceBEq, Nat.reduceBNe, Int.reduceToNat, c38, snapRow, own]
    refine condW_intro (fun h => ?_) (fun h => ?_)
    · have h : q < a1.length := by simpa using h
      simp -implicitDefEqProofs -dsimp only [go_sem, reduceIte, reduceCtorEq, Nat.reduceAdd, Nat.reduceMul, Nat.reduceSub, Nat.reduceDiv, Nat.reduceLT, Nat.reduceLeDiff, Nat.reduceEqDiff, Nat.reduceBEq, Nat.reduceBNe, Int.reduceToNat, c38]
      by_cases hqp : q = p
      · simp -implicitDefEqProofs -dsimp only [go_sem, reduceIte, reduceCtorEq, Nat.reduceAdd, Nat.reduceMul, Nat.reduceSub, Nat.reduceDiv, Nat.reduceLT, Nat.reduceLeDiff, Nat.reduceEqDiff, Nat.reduceBEq, Nat.reduceBNe, Int.reduceToNat, c38, hqp, wS (show p < 4611686018427387904 by omega)]
        refine ⟨n - 1, by omega, p + 1, by omega, ?_⟩
        subst hqp
        simp only [recTo, if_true, hR]
        rfl
      · have h1 : p * a1.length + q < a1.length * a1.length := by
          have : p * a1.length + a1.length ≤ a1.length * a1.length := by
            have := Nat.mul_le_mul_right a1.length (show p + 1 ≤ a1.length by omega)
            rw [Nat.succ_mul] at this; exact this
          omega
        have h2 : q * a1.length + p < a1.length * a1.length := by
          have : q * a1.length + a1.length ≤ a1.length * a1.length := by
            have := Nat.mul_le_mul_right a1.length (show q + 1 ≤ a1.length by omega)
            rw [Nat.succ_mul] at this; exact this
          omega
        have e3 : c[p * a1.length + q]? = some c[p * a1.length + q] := by simp [r3, h1]
        have e6 : o[q * a1.length + p]? = some o[q * a1.length + p] := by simp [r6, h2]
        have b3 := hsm c[p * a1.length + q] (by simp)
        have m1 : ((c[p * a1.length + q].length + 1) * 16 ≤ 2 ^ 47) = True := eq_true (by omega)
        have w1 := wM (a := p) (b := a1.length) (by omega)
        have w2 := wM (a := q) (b := a1.length) (by omega)
        have w3 := wA (a := p * a1.length) (b := q) (by omega)
        have w4 := wA (a := q * a1.length) (b := p) (by omega)
        have g1 : ∀ x, (c.map (encS .own 2 encP)).set (p * a1.length + q) x = (c.map (encS .own 2 encP)).set (p * a1.length + q) x := fun x => rfl
        have g2 : ∀ x : List V, ((c.map (encS .own 2 encP)).set (p * a1.length + q) x)[p * a1.length + q]? = some x := fun x => getSet (by simp [r3, h1])
        simp -implicitDefEqProofs -dsimp only [go_sem, reduceIte, reduceCtorEq, Nat.reduceAdd, Nat.reduceMul, Nat.reduceSub, Nat.reduceDiv, Nat.reduceLT, Nat.reduceLeDiff, Nat.reduceEqDiff, Nat.reduceBEq, Nat.reduceBNe, Int.reduceToNat, c38, hqp, w1, w2, w3, w4, r3, r6, h1, h2, e3, e6, m1, g2, setSet, wS (show q < 4611686018427387904 by omega)]
        refine ⟨n - 1, by omega, q + 1, by omega, ?_⟩
        simp only [recTo, if_neg hqp, hR, addMk, e3, Option.getD_some]
        rfl
    · have h : ¬ q < a1.length := by simpa using h
      simp -implicitDefEqProofs -dsimp only [go_sem, reduceIte, reduceCtorEq, Nat.reduceAdd, Nat.reduceMul, Nat.reduceSub, Nat.reduceDiv, Nat.reduceLT, Nat.reduceLeDiff, Nat.reduceEqDiff, Nat.reduceBEq, Nat.reduceBNe, Int.reduceToNat, c38]
      have eq : q = a1.length := by omega
      subst eq
      simp -implicitDefEqProofs -dsimp only [go_sem, reduceIte, reduceCtorEq, Nat.reduceAdd, Nat.reduceMul, Nat.reduceSub, Nat.reduceDiv, Nat.reduceLT, Nat.reduceLeDiff, Nat.reduceEqDiff, Nat.reduceBEq, Nat.reduceBNe, Int.reduceToNat, c38, recF, snapRow, hR, e1, e2, Option.getD_some, own]
  · simp -implicitDefEqProofs -dsimp only [go_sem, reduceIte, reduceCtorEq, Nat.reduceAdd, Nat.reduceMul, Nat.reduceSub, Nat.reduceDiv, Nat.reduceLT, Nat.reduceLeDiff, Nat.reduceEqDiff, Nat.reduceBEq, Nat.reduceBNe, Int.reduceToNat, c38]
    exact ⟨0, by omega, rfl⟩
end Pv

set_option maxRecDepth 100000
set_option linter.unusedVariables false
set_option linter.unusedSimpArgs false
namespace Pv
open Go
def putC (s : Snap) (k : Nat) (x : List (Bool × Int)) : Snap := { s with chans := s.chans.set k x }
def sendF (s : Snap) (k p : Nat) (v : Int) : Snap := { s with values := s.values.set p (IntKind.i64.wrap (s.values[p]?.getD 0 - v)), counts := s.counts.set p (IntKind.i64.wrap (s.counts[p]?.getD 0 + 1)), chans := s.chans.set k (s.chans[k]?.getD [] ++ [(false, v)]) }
def markF (s : Snap) (p : Nat) : Snap := if s.cut[p]? = some (-1) then recF s p else s
def recvF (s : Snap) (k q : Nat) (v : Int) : Snap := { s with values := s.values.set q (IntKind.i64.wrap (s.values[q]?.getD 0 + v)), counts := s.counts.set q (IntKind.i64.wrap (s.counts[q]?.getD 0 + 1)), record := if s.opn[k]? = some true then s.record.set k (s.record[k]?.getD [] ++ [v]) else s.record }
def shutF (s : Snap) (k : Nat) : Snap := { s with opn := s.opn.set k false }
def delF (s : Snap) (k q : Nat) : Snap × Int := match s.chans[k]?.getD [] with
  | [] => (noSnap, 11)
  | (true, _) :: r => (shutF (markF (putC s k r) q) k, 0)
  | (false, v) :: r => (recvF (putC s k r) k q v, 0)
def stepF (s : Snap) (m : Mv) : Snap × Int :=
  if m.kind = 3 then (if 0 ≤ m.fr ∧ m.fr < s.values.length then (markF s m.fr.toNat, 0) else (noSnap, 3))
  else if m.kind = 1 ∨ m.kind = 2 then
    (if (0 ≤ m.fr ∧ m.fr < s.values.length) ∧ (0 ≤ m.to ∧ m.to < s.values.length) ∧ m.fr ≠ m.to then
      (if m.kind = 1 then (if 256 ≤ (s.chans[m.fr.toNat * s.values.length + m.to.toNat]?.getD []).length then (noSnap, 4) else (sendF s (m.fr.toNat * s.values.length + m.to.toNat) m.fr.toNat m.val, 0))
       else delF s (m.fr.toNat * s.values.length + m.to.toNat) m.to.toNat)
    else (noSnap, 3))
  else (noSnap, 3)
structure Tab15 (T : Nat → Option Fn) : Prop where
  h15 : T 15 = some c15
  h32 : T 32 = some c32
  h33 : T 33 = some c33
  h34 : T 34 = some c34
  h35 : T 35 = some c35
set_option maxHeartbeats 16000000
theorem step1_begin {T : Nat → Option Fn} (hT : Tab15 T) {k : Nat} {s : Snap} (hs : Whole k s) (hk : k ≤ 1000000) (L : Nat → Lab) (hL : ∀ i, L i ≠ .own) (fr to v : Int) :
    EvF T 15 [] [.agg (snapRow L s), .agg (encM ⟨3, fr, to, v⟩)] [] (encR (stepF s ⟨3, fr, to, v⟩)) := by
  obtain ⟨h15, h32, h33, h34, h35⟩ := hT
  have hw := isWhole_ok h32 hs L hL
  have hc := clone_ok h34 hs hk L hL
  have hi := is_ok h33 fr s.values.length
  refine EvF.run h15 ?_
  simp -implicitDefEqProofs -dsimp only [go_sem, reduceIte, reduceCtorEq, Nat.reduceAdd, Nat.reduceMul, Nat.reduceSub, Nat.reduceDiv, Nat.reduceLT, Nat.reduceLeDiff, Nat.reduceEqDiff, Nat.reduceBEq, Nat.reduceBNe, Int.reduceToNat, Int.reduceEq, Int.reduceLT, Int.reduceLE, Int.reduceNeg, c15, snapRow, hL]
  refine CallF.intro hw ?_
  simp -implicitDefEqProofs -dsimp only [go_sem, reduceIte, reduceCtorEq, Nat.reduceAdd, Nat.reduceMul, Nat.reduceSub, Nat.reduceDiv, Nat.reduceLT, Nat.reduceLeDiff, Nat.reduceEqDiff, Nat.reduceBEq, Nat.reduceBNe, Int.reduceToNat, Int.reduceEq, Int.reduceLT, Int.reduceLE, Int.reduceNeg, c15, snapRow, hL]
  refine CallF.intro hi ?_
  simp -implicitDefEqProofs -dsimp only [go_sem, reduceIte, reduceCtorEq, Nat.reduceAdd, Nat.reduceMul, Nat.reduceSub, Nat.reduceDiv, Nat.reduceLT, Nat.reduceLeDiff, Nat.reduceEqDiff, Nat.reduceBEq, Nat.reduceBNe, Int.reduceToNat, Int.reduceEq, Int.reduceLT, Int.reduceLE, Int.reduceNeg, c15, snapRow, hL]
  by_cases hf : 0 ≤ fr ∧ fr < s.values.length
  case neg =>
    simp -implicitDefEqProofs -dsimp only [go_sem, reduceIte, reduceCtorEq, Nat.reduceAdd, Nat.reduceMul, Nat.reduceSub, Nat.reduceDiv, Nat.reduceLT, Nat.reduceLeDiff, Nat.reduceEqDiff, Nat.reduceBEq, Nat.reduceBNe, Int.reduceToNat, Int.reduceEq, Int.reduceLT, Int.reduceLE, Int.reduceNeg, c15, snapRow, hL, hf]
    simp only [stepF, if_true, if_neg hf]
    rfl
  obtain ⟨p, rfl⟩ : ∃ p : Nat, fr = p := ⟨fr.toNat, by omega⟩
  have hp : p < s.values.length := by omega
  simp -implicitDefEqProofs -dsimp only [go_sem, reduceIte, reduceCtorEq, Nat.reduceAdd, Nat.reduceMul, Nat.reduceSub, Nat.reduceDiv, Nat.reduceLT, Nat.reduceLeDiff, Nat.reduceEqDiff, Nat.reduceBEq, Nat.reduceBNe, Int.reduceToNat, Int.reduceEq, Int.reduceLT, Int.reduceLE, Int.reduceNeg, c15, snapRow, hL, hp]
  refine CallF.intro hc ?_
  have hp4 : p < s.cut.length := by rw [hs.cu]; exact hp
  have e4 : s.cut[p]? = some s.cut[p] := by simp [hp4]
  simp -implicitDefEqProofs -dsimp only [go_sem, reduceIte, reduceCtorEq, Nat.reduceAdd, Nat.reduceMul, Nat.reduceSub, Nat.reduceDiv, Nat.reduceLT, Nat.reduceLeDiff, Nat.reduceEqDiff, Nat.reduceBEq, Nat.reduceBNe, Int.reduceToNat, Int.reduceEq, Int.reduceLT, Int.reduceLE, Int.reduceNeg, c15, snapRow, hL, hp, own, e4, hs.cu]
  by_cases hm : s.cut[p] = -1
  · simp -implicitDefEqProofs -dsimp only [go_sem, reduceIte, reduceCtorEq, Nat.reduceAdd, Nat.reduceMul, Nat.reduceSub, Nat.reduceDiv, Nat.reduceLT, Nat.reduceLeDiff, Nat.reduceEqDiff, Nat.reduceBEq, Nat.reduceBNe, Int.reduceToNat, Int.reduceEq, Int.reduceLT, Int.reduceLE, Int.reduceNeg, c15, hm]
    refine CallF.intro (rec1_ok h35 hs hk hp) ?_
    simp -implicitDefEqProofs -dsimp only [go_sem, reduceIte, reduceCtorEq, Nat.reduceAdd, Nat.reduceMul, Nat.reduceSub, Nat.reduceDiv, Nat.reduceLT, Nat.reduceLeDiff, Nat.reduceEqDiff, Nat.reduceBEq, Nat.reduceBNe, Int.reduceToNat, Int.reduceEq, Int.reduceLT, Int.reduceLE, Int.reduceNeg, c15, snapRow, own]
    have : stepF s ⟨3, p, to, v⟩ = (recF s p, 0) := by simp [stepF, markF, e4, hm, hp]
    rw [this]; rfl
  · simp -implicitDefEqProofs -dsimp only [go_sem, reduceIte, reduceCtorEq, Nat.reduceAdd, Nat.reduceMul, Nat.reduceSub, Nat.reduceDiv, Nat.reduceLT, Nat.reduceLeDiff, Nat.reduceEqDiff, Nat.reduceBEq, Nat.reduceBNe, Int.reduceToNat, Int.reduceEq, Int.reduceLT, Int.reduceLE, Int.reduceNeg, c15, hm]
    have : stepF s ⟨3, p, to, v⟩ = (s, 0) := by simp [stepF, markF, e4, hm, hp]
    rw [this]; rfl
theorem step1_bad {T : Nat → Option Fn} (hT : Tab15 T) {k : Nat} {s : Snap} (hs : Whole k s) (L : Nat → Lab) (hL : ∀ i, L i ≠ .own) (kd fr to v : Int) (h3 : ¬ kd = 3) (h1 : ¬ kd = 1) (h2 : ¬ kd = 2) :
    EvF T 15 [] [.agg (snapRow L s), .agg (encM ⟨kd, fr, to, v⟩)] [] (encR (noSnap, 3)) := by
  obtain ⟨h15, h32, h33, h34, h35⟩ := hT
  have hw := isWhole_ok h32 hs L hL
  refine EvF.run h15 ?_
  simp -implicitDefEqProofs -dsimp only [go_sem, reduceIte, reduceCtorEq, Nat.reduceAdd, Nat.reduceMul, Nat.reduceSub, Nat.reduceDiv, Nat.reduceLT, Nat.reduceLeDiff, Nat.reduceEqDiff, Nat.reduceBEq, Nat.reduceBNe, Int.reduceToNat, Int.reduceEq, Int.reduceLT, Int.reduceLE, Int.reduceNeg, c15, snapRow, hL]
  refine CallF.intro hw ?_
  simp -implicitDefEqProofs -dsimp only [go_sem, reduceIte, reduceCtorEq, Nat.reduceAdd, Nat.reduceMul, Nat.reduceSub, Nat.reduceDiv, Nat.reduceLT, Nat.reduceLeDiff, Nat.reduceEqDiff, Nat.reduceBEq, Nat.reduceBNe, Int.reduceToNat, Int.reduceEq, Int.reduceLT, Int.reduceLE, Int.reduceNeg, c15, snapRow, hL, h1, h2, h3]
  rfl
theorem chan_lt {p q n : Nat} (hp : p < n) (hq : q < n) : p * n + q < n * n := by
  have : p * n + n ≤ n * n := by
    have := Nat.mul_le_mul_right n (show p + 1 ≤ n by omega)
    rw [Nat.succ_mul] at this; exact this
  omega
theorem step1_far {T : Nat → Option Fn} (hT : Tab15 T) {k : Nat} {s : Snap} (hs : Whole k s) (L : Nat → Lab) (hL : ∀ i, L i ≠ .own) (kd fr to v : Int) (hk : kd = 1 ∨ kd = 2)
    (hf : ¬ ((0 ≤ fr ∧ fr < s.values.length) ∧ (0 ≤ to ∧ to < s.values.length) ∧ fr ≠ to)) :
    EvF T 15 [] [.agg (snapRow L s), .agg (encM ⟨kd, fr, to, v⟩)] [] (encR (noSnap, 3)) := by
  obtain ⟨h15, h32, h33, h34, h35⟩ := hT
  have hw := isWhole_ok h32 hs L hL
  have hi := is_ok h33 fr s.values.length
  have hj := is_ok h33 to s.values.length
  refine EvF.run h15 ?_
  simp -implicitDefEqProofs -dsimp only [go_sem, reduceIte, reduceCtorEq, Nat.reduceAdd, Nat.reduceMul, Nat.reduceSub, Nat.reduceDiv, Nat.reduceLT, Nat.reduceLeDiff, Nat.reduceEqDiff, Nat.reduceBEq, Nat.reduceBNe, Int.reduceToNat, Int.reduceEq, Int.reduceLT, Int.reduceLE, Int.reduceNeg, c15, snapRow, hL]
  refine CallF.intro hw ?_
  have h3 : ¬ kd = 3 := by omega
  rcases hk with rfl | rfl
  · simp -implicitDefEqProofs -dsimp only [go_sem, reduceIte, reduceCtorEq, Nat.reduceAdd, Nat.reduceMul, Nat.reduceSub, Nat.reduceDiv, Nat.reduceLT, Nat.reduceLeDiff, Nat.reduceEqDiff, Nat.reduceBEq, Nat.reduceBNe, Int.reduceToNat, Int.reduceEq, Int.reduceLT, Int.reduceLE, Int.reduceNeg, c15, snapRow, hL]
    refine CallF.intro hi ?_
    by_cases hf1 : 0 ≤ fr ∧ fr < s.values.length
    case neg => simp -implicitDefEqProofs -dsimp only [go_sem, reduceIte, reduceCtorEq, Nat.reduceAdd, Nat.reduceMul, Nat.reduceSub, Nat.reduceDiv, Nat.reduceLT, Nat.reduceLeDiff, Nat.reduceEqDiff, Nat.reduceBEq, Nat.reduceBNe, Int.reduceToNat, Int.reduceEq, Int.reduceLT, Int.reduceLE, Int.reduceNeg, c15, snapRow, hL, hf1]; rfl
    simp -implicitDefEqProofs -dsimp only [go_sem, reduceIte, reduceCtorEq, Nat.reduceAdd, Nat.reduceMul, Nat.reduceSub, Nat.reduceDiv, Nat.reduceLT, Nat.reduceLeDiff, Nat.reduceEqDiff, Nat.reduceBEq, Nat.reduceBNe, Int.reduceToNat, Int.reduceEq, Int.reduceLT, Int.reduceLE, Int.reduceNeg, c15, snapRow, hL, hf1]
    refine CallF.intro hj ?_
    by_cases hf2 : 0 ≤ to ∧ to < s.values.length
    case neg => simp -implicitDefEqProofs -dsimp only [go_sem, reduceIte, reduceCtorEq, Nat.reduceAdd, Nat.reduceMul, Nat.reduceSub, Nat.reduceDiv, Nat.reduceLT, Nat.reduceLeDiff, Nat.reduceEqDiff, Nat.reduceBEq, Nat.reduceBNe, Int.reduceToNat, Int.reduceEq, Int.reduceLT, Int.reduceLE, Int.reduceNeg, c15, snapRow, hL, hf2]; rfl
    have hf3 : fr = to := by
      by_cases e : fr = to
      · exact e
      · exact absurd ⟨hf1, hf2, e⟩ hf
    simp -implicitDefEqProofs -dsimp only [go_sem, reduceIte, reduceCtorEq, Nat.reduceAdd, Nat.reduceMul, Nat.reduceSub, Nat.reduceDiv, Nat.reduceLT, Nat.reduceLeDiff, Nat.reduceEqDiff, Nat.reduceBEq, Nat.reduceBNe, Int.reduceToNat, Int.reduceEq, Int.reduceLT, Int.reduceLE, Int.reduceNeg, c15, snapRow, hL, hf2, hf3]
    rfl
  · simp -implicitDefEqProofs -dsimp only [go_sem, reduceIte, reduceCtorEq, Nat.reduceAdd, Nat.reduceMul, Nat.reduceSub, Nat.reduceDiv, Nat.reduceLT, Nat.reduceLeDiff, Nat.reduceEqDiff, Nat.reduceBEq, Nat.reduceBNe, Int.reduceToNat, Int.reduceEq, Int.reduceLT, Int.reduceLE, Int.reduceNeg, c15, snapRow, hL]
    refine CallF.intro hi ?_
    by_cases hf1 : 0 ≤ fr ∧ fr < s.values.length
    case neg => simp -implicitDefEqProofs -dsimp only [go_sem, reduceIte, reduceCtorEq, Nat.reduceAdd, Nat.reduceMul, Nat.reduceSub, Nat.reduceDiv, Nat.reduceLT, Nat.reduceLeDiff, Nat.reduceEqDiff, Nat.reduceBEq, Nat.reduceBNe, Int.reduceToNat, Int.reduceEq, Int.reduceLT, Int.reduceLE, Int.reduceNeg, c15, snapRow, hL, hf1]; rfl
    simp -implicitDefEqProofs -dsimp only [go_sem, reduceIte, reduceCtorEq, Nat.reduceAdd, Nat.reduceMul, Nat.reduceSub, Nat.reduceDiv, Nat.reduceLT, Nat.reduceLeDiff, Nat.reduceEqDiff, Nat.reduceBEq, Nat.reduceBNe, Int.reduceToNat, Int.reduceEq, Int.reduceLT, Int.reduceLE, Int.reduceNeg, c15, snapRow, hL, hf1]
    refine CallF.intro hj ?_
    by_cases hf2 : 0 ≤ to ∧ to < s.values.length
    case neg => simp -implicitDefEqProofs -dsimp only [go_sem, reduceIte, reduceCtorEq, Nat.reduceAdd, Nat.reduceMul, Nat.reduceSub, Nat.reduceDiv, Nat.reduceLT, Nat.reduceLeDiff, Nat.reduceEqDiff, Nat.reduceBEq, Nat.reduceBNe, Int.reduceToNat, Int.reduceEq, Int.reduceLT, Int.reduceLE, Int.reduceNeg, c15, snapRow, hL, hf2]; rfl
    have hf3 : fr = to := by
      by_cases e : fr = to
      · exact e
      · exact absurd ⟨hf1, hf2, e⟩ hf
    simp -implicitDefEqProofs -dsimp only [go_sem, reduceIte, reduceCtorEq, Nat.reduceAdd, Nat.reduceMul, Nat.reduceSub, Nat.reduceDiv, Nat.reduceLT, Nat.reduceLeDiff, Nat.reduceEqDiff, Nat.reduceBEq, Nat.reduceBNe, Int.reduceToNat, Int.reduceEq, Int.reduceLT, Int.reduceLE, Int.reduceNeg, c15, snapRow, hL, hf2, hf3]
    rfl
end Pv

set_option maxRecDepth 100000
set_option linter.unusedVariables false
set_option linter.unusedSimpArgs false
namespace Pv
open Go
set_option maxHeartbeats 16000000
theorem step1_send {T : Nat → Option Fn} (hT : Tab15 T) {k : Nat} {s : Snap} (hs : Whole k s) (hk : k ≤ 1000000) (L : Nat → Lab) (hL : ∀ i, L i ≠ .own) (p q : Nat) (v : Int) (hp : p < s.values.length) (hq : q < s.values.length) (hpq : ¬ p = q) :
    EvF T 15 [] [.agg (snapRow L s), .agg (encM ⟨1, p, q, v⟩)] [] (encR (stepF s ⟨1, p, q, v⟩)) := by
  obtain ⟨h15, h32, h33, h34, h35⟩ := hT
  have hw := isWhole_ok h32 hs L hL
  have hc := clone_ok h34 hs hk L hL
  have hi := is_ok h33 p s.values.length
  have hj := is_ok h33 q s.values.length
  have hn := hs.n5
  have hnn : s.values.length * s.values.length ≤ 25 := Nat.mul_le_mul hn hn
  have hl := chan_lt hp hq
  have w1 := wM (a := p) (b := s.values.length) (by omega)
  have w2 := wA (a := p * s.values.length) (b := q) (by omega)
  have l3 : p * s.values.length + q < s.chans.length := by rw [hs.ch]; exact hl
  have l2 : p < s.counts.length := by rw [hs.co]; exact hp
  have e3 : s.chans[p * s.values.length + q]? = some s.chans[p * s.values.length + q] := by simp [l3]
  have e1 : s.values[p]? = some s.values[p] := by simp [hp]
  have e2 : s.counts[p]? = some s.counts[p] := by simp [l2]
  have b3 := hs.chk s.chans[p * s.values.length + q] (by simp)
  have m1 : ((s.chans[p * s.values.length + q].length + 1) * 16 ≤ 2 ^ 47) = True := eq_true (by omega)
  have g2 : ∀ x : List V, ((s.chans.map (encS .own 2 encP)).set (p * s.values.length + q) x)[p * s.values.length + q]? = some x := fun x => getSet (by simp [l3])
  have x2 : stepF s ⟨1, p, q, v⟩ = if 256 ≤ s.chans[p * s.values.length + q].length then (noSnap, 4) else (sendF s (p * s.values.length + q) p v, 0) := by
    simp [stepF, hp, hq, hpq, e3, Int.ofNat_inj]
  refine EvF.run h15 ?_
  simp -implicitDefEqProofs -dsimp only [go_sem, reduceIte, reduceCtorEq, Nat.reduceAdd, Nat.reduceMul, Nat.reduceSub, Nat.reduceDiv, Nat.reduceLT, Nat.reduceLeDiff, Nat.reduceEqDiff, Nat.reduceBEq, Nat.reduceBNe, Int.reduceToNat, Int.reduceEq, Int.reduceLT, Int.reduceLE, Int.reduceNeg, c15, snapRow, hL]
  refine CallF.intro hw ?_
  simp -implicitDefEqProofs -dsimp only [go_sem, reduceIte, reduceCtorEq, Nat.reduceAdd, Nat.reduceMul, Nat.reduceSub, Nat.reduceDiv, Nat.reduceLT, Nat.reduceLeDiff, Nat.reduceEqDiff, Nat.reduceBEq, Nat.reduceBNe, Int.reduceToNat, Int.reduceEq, Int.reduceLT, Int.reduceLE, Int.reduceNeg, c15, snapRow, hL]
  refine CallF.intro hi ?_
  simp -implicitDefEqProofs -dsimp only [go_sem, reduceIte, reduceCtorEq, Nat.reduceAdd, Nat.reduceMul, Nat.reduceSub, Nat.reduceDiv, Nat.reduceLT, Nat.reduceLeDiff, Nat.reduceEqDiff, Nat.reduceBEq, Nat.reduceBNe, Int.reduceToNat, Int.reduceEq, Int.reduceLT, Int.reduceLE, Int.reduceNeg, c15, snapRow, hL, hp]
  refine CallF.intro hj ?_
  simp -implicitDefEqProofs -dsimp only [go_sem, reduceIte, reduceCtorEq, Nat.reduceAdd, Nat.reduceMul, Nat.reduceSub, Nat.reduceDiv, Nat.reduceLT, Nat.reduceLeDiff, Nat.reduceEqDiff, Nat.reduceBEq, Nat.reduceBNe, Int.reduceToNat, Int.reduceEq, Int.reduceLT, Int.reduceLE, Int.reduceNeg, c15, snapRow, hL, hq, hpq, w1, w2, hs.ch, hl, e3]
  by_cases h256 : 256 ≤ s.chans[p * s.values.length + q].length
  · have h256' : ((256 : Int) ≤ (s.chans[p * s.values.length + q].length : Int)) = True := eq_true (by omega)
    simp -implicitDefEqProofs -dsimp only [go_sem, reduceIte, reduceCtorEq, Nat.reduceAdd, Nat.reduceMul, Nat.reduceSub, Nat.reduceDiv, Nat.reduceLT, Nat.reduceLeDiff, Nat.reduceEqDiff, Nat.reduceBEq, Nat.reduceBNe, Int.reduceToNat, Int.reduceEq, Int.reduceLT, Int.reduceLE, Int.reduceNeg, c15, snapRow, hL, h256']
    rw [x2, if_pos h256]; rfl
  · have h256' : ((256 : Int) ≤ (s.chans[p * s.values.length + q].length : Int)) = False := eq_false (by omega)
    simp -implicitDefEqProofs -dsimp only [go_sem, reduceIte, reduceCtorEq, Nat.reduceAdd, Nat.reduceMul, Nat.reduceSub, Nat.reduceDiv, Nat.reduceLT, Nat.reduceLeDiff, Nat.reduceEqDiff, Nat.reduceBEq, Nat.reduceBNe, Int.reduceToNat, Int.reduceEq, Int.reduceLT, Int.reduceLE, Int.reduceNeg, c15, snapRow, hL, h256']
    refine CallF.intro hc ?_
    simp -implicitDefEqProofs -dsimp only [go_sem, reduceIte, reduceCtorEq, Nat.reduceAdd, Nat.reduceMul, Nat.reduceSub, Nat.reduceDiv, Nat.reduceLT, Nat.reduceLeDiff, Nat.reduceEqDiff, Nat.reduceBEq, Nat.reduceBNe, Int.reduceToNat, Int.reduceEq, Int.reduceLT, Int.reduceLE, Int.reduceNeg, c15, snapRow, own, hp, hs.ch, hs.co, hl, e1, e2, e3, m1, g2, setSet]
    rw [x2, if_neg h256]
    simp only [sendF, e1, e2, e3, Option.getD_some]
    rfl
theorem step1_del {T : Nat → Option Fn} (hT : Tab15 T) {k : Nat} {s : Snap} (hs : Whole k s) (hk : k ≤ 1000000) (L : Nat → Lab) (hL : ∀ i, L i ≠ .own) (p q : Nat) (v : Int) (hp : p < s.values.length) (hq : q < s.values.length) (hpq : ¬ p = q) :
    EvF T 15 [] [.agg (snapRow L s), .agg (encM ⟨2, p, q, v⟩)] [] (encR (stepF s ⟨2, p, q, v⟩)) := by
  obtain ⟨h15, h32, h33, h34, h35⟩ := hT
  have hw := isWhole_ok h32 hs L hL
  have hc := clone_ok h34 hs hk L hL
  have hi := is_ok h33 p s.values.length
  have hj := is_ok h33 q s.values.length
  have hn := hs.n5
  have hnn : s.values.length * s.values.length ≤ 25 := Nat.mul_le_mul hn hn
  have hl := chan_lt hp hq
  have w1 := wM (a := p) (b := s.values.length) (by omega)
  have w2 := wA (a := p * s.values.length) (b := q) (by omega)
  have l3 : p * s.values.length + q < s.chans.length := by rw [hs.ch]; exact hl
  have l2 : q < s.counts.length := by rw [hs.co]; exact hq
  have l4 : q < s.cut.length := by rw [hs.cu]; exact hq
  have l6 : p * s.values.length + q < s.opn.length := by rw [hs.op]; exact hl
  have l7 : p * s.values.length + q < s.record.length := by rw [hs.re]; exact hl
  have e3 : s.chans[p * s.values.length + q]? = some s.chans[p * s.values.length + q] := by simp [l3]
  have e1 : s.values[q]? = some s.values[q] := by simp [hq]
  have e2 : s.counts[q]? = some s.counts[q] := by simp [l2]
  have e4 : s.cut[q]? = some s.cut[q] := by simp [l4]
  have e6 : s.opn[p * s.values.length + q]? = some s.opn[p * s.values.length + q] := by simp [l6]
  have e7 : s.record[p * s.values.length + q]? = some s.record[p * s.values.length + q] := by simp [l7]
  have b3 := hs.chk s.chans[p * s.values.length + q] (by simp)
  have b7 := hs.rek s.record[p * s.values.length + q] (by simp)
  have m7 : ((s.record[p * s.values.length + q].length + 1) * 8 ≤ 2 ^ 47) = True := eq_true (by omega)
  have g2 : ∀ x : List V, ((s.chans.map (encS .own 2 encP)).set (p * s.values.length + q) x)[p * s.values.length + q]? = some x := fun x => getSet (by simp [l3])
  have g7 : ∀ x : List V, ((s.record.map (encS .own 1 encI)).set (p * s.values.length + q) x)[p * s.values.length + q]? = some x := fun x => getSet (by simp [l7])
  have x2 : stepF s ⟨2, p, q, v⟩ = delF s (p * s.values.length + q) q := by
    simp [stepF, hp, hq, hpq, Int.ofNat_inj]
  rw [x2]
  refine EvF.run h15 ?_
  simp -implicitDefEqProofs -dsimp only [go_sem, reduceIte, reduceCtorEq, Nat.reduceAdd, Nat.reduceMul, Nat.reduceSub, Nat.reduceDiv, Nat.reduceLT, Nat.reduceLeDiff, Nat.reduceEqDiff, Nat.reduceBEq, Nat.reduceBNe, Int.reduceToNat, Int.reduceEq, Int.reduceLT, Int.reduceLE, Int.reduceNeg, c15, snapRow, hL]
  refine CallF.intro hw ?_
  simp -implicitDefEqProofs -dsimp only [go_sem, reduceIte, reduceCtorEq, Nat.reduceAdd, Nat.reduceMul, Nat.reduceSub, Nat.reduceDiv, Nat.reduceLT, Nat.reduceLeDiff, Nat.reduceEqDiff, Nat.reduceBEq, Nat.reduceBNe, Int.reduceToNat, Int.reduceEq, Int.reduceLT, Int.reduceLE, Int.reduceNeg, c15, snapRow, hL]
  refine CallF.intro hi ?_
  simp -implicitDefEqProofs -dsimp only [go_sem, reduceIte, reduceCtorEq, Nat.reduceAdd, Nat.reduceMul, Nat.reduceSub, Nat.reduceDiv, Nat.reduceLT, Nat.reduceLeDiff, Nat.reduceEqDiff, Nat.reduceBEq, Nat.reduceBNe, Int.reduceToNat, Int.reduceEq, Int.reduceLT, Int.reduceLE, Int.reduceNeg, c15, snapRow, hL, hp]
  refine CallF.intro hj ?_
  simp -implicitDefEqProofs -dsimp only [go_sem, reduceIte, reduceCtorEq, Nat.reduceAdd, Nat.reduceMul, Nat.reduceSub, Nat.reduceDiv, Nat.reduceLT, Nat.reduceLeDiff, Nat.reduceEqDiff, Nat.reduceBEq, Nat.reduceBNe, Int.reduceToNat, Int.reduceEq, Int.reduceLT, Int.reduceLE, Int.reduceNeg, c15, snapRow, hL, hq, hpq, w1, w2, hs.ch, hl, e3]
  cases hch : s.chans[p * s.values.length + q] with
  | nil =>
    simp -implicitDefEqProofs -dsimp only [go_sem, reduceIte, reduceCtorEq, Nat.reduceAdd, Nat.reduceMul, Nat.reduceSub, Nat.reduceDiv, Nat.reduceLT, Nat.reduceLeDiff, Nat.reduceEqDiff, Nat.reduceBEq, Nat.reduceBNe, Int.reduceToNat, Int.reduceEq, Int.reduceLT, Int.reduceLE, Int.reduceNeg, c15, snapRow, hL, hch]
    simp only [delF, e3, hch, Option.getD_some]
    rfl
  | cons x r =>
    have hne : (((r.length + 1 : Nat) : Int) = 0) = False := eq_false (by omega)
    simp -implicitDefEqProofs -dsimp only [go_sem, reduceIte, reduceCtorEq, Nat.reduceAdd, Nat.reduceMul, Nat.reduceSub, Nat.reduceDiv, Nat.reduceLT, Nat.reduceLeDiff, Nat.reduceEqDiff, Nat.reduceBEq, Nat.reduceBNe, Int.reduceToNat, Int.reduceEq, Int.reduceLT, Int.reduceLE, Int.reduceNeg, c15, snapRow, hL, hch, hne]
    refine CallF.intro hc ?_
    obtain ⟨mk, x⟩ := x
    rw [hch] at b3
    have hpos : ((0 : Int) < ((r.length + 1 : Nat) : Int)) = True := eq_true (by omega)
    have hpos1 : ((1 : Int) ≤ ((r.length + 1 : Nat) : Int)) = True := eq_true (by omega)
    have hle : (((r.length + 1 : Nat) : Int) ≤ ((r.length + 1 : Nat) : Int)) = True := eq_true (by omega)
    simp only [List.length_cons] at b3
    have ht : List.take (r.length + 1 - 1) r = r := by simp
    have m1 : (r.length * 16 ≤ 2 ^ 47) = True := eq_true (by omega)
    have x3 : delF s (p * s.values.length + q) q = if mk = true then (shutF (markF (putC s (p * s.values.length + q) r) q) (p * s.values.length + q), 0) else (recvF (putC s (p * s.values.length + q) r) (p * s.values.length + q) q x, 0) := by
      simp only [delF, e3, hch, Option.getD_some]
      cases mk <;> rfl
    rw [x3]
    cases mk with
    | true =>
      simp -implicitDefEqProofs -dsimp only [go_sem, reduceIte, reduceCtorEq, Nat.reduceAdd, Nat.reduceMul, Nat.reduceSub, Nat.reduceDiv, Nat.reduceLT, Nat.reduceLeDiff, Nat.reduceEqDiff, Nat.reduceBEq, Nat.reduceBNe, Int.reduceToNat, Int.reduceEq, Int.reduceLT, Int.reduceLE, Int.reduceNeg, c15, snapRow, own, hq, hs.ch, hs.co, hs.cu, hl, e1, e2, e3, e4, hch, hpos, hpos1, hle, ht, m1, g2, setSet]
      have hs' : Whole k (putC s (p * s.values.length + q) r) := by
        obtain ⟨n1, n5, co, cu, sa, ch, op, re, chk, rek⟩ := hs
        refine ⟨n1, n5, co, cu, sa, by simp only [putC, List.length_set]; exact ch, op, re, fun y hy => ?_, rek⟩
        simp only [putC] at hy
        rcases List.mem_or_eq_of_mem_set hy with h | h
        · exact chk y h
        · rw [h]; omega
      by_cases hm : s.cut[q] = -1
      · simp -implicitDefEqProofs -dsimp only [go_sem, reduceIte, reduceCtorEq, Nat.reduceAdd, Nat.reduceMul, Nat.reduceSub, Nat.reduceDiv, Nat.reduceLT, Nat.reduceLeDiff, Nat.reduceEqDiff, Nat.reduceBEq, Nat.reduceBNe, Int.reduceToNat, Int.reduceEq, Int.reduceLT, Int.reduceLE, Int.reduceNeg, c15, hm]
        refine CallF.intro (rec1_ok h35 hs' hk (p := q) hq) ?_
        have l6' : (p * s.values.length + q < (recF (putC s (p * s.values.length + q) r) q).opn.length) = True := by
          apply eq_true
          simp only [recF, putC]
          rw [(recTo_len _).2]
          exact l6
        have e6' : (recF (putC s (p * s.values.length + q) r) q).opn[p * s.values.length + q]? = some ((recF (putC s (p * s.values.length + q) r) q).opn[p * s.values.length + q]'(of_eq_true l6')) := by simp
        simp -implicitDefEqProofs -dsimp only [go_sem, reduceIte, reduceCtorEq, Nat.reduceAdd, Nat.reduceMul, Nat.reduceSub, Nat.reduceDiv, Nat.reduceLT, Nat.reduceLeDiff, Nat.reduceEqDiff, Nat.reduceBEq, Nat.reduceBNe, Int.reduceToNat, Int.reduceEq, Int.reduceLT, Int.reduceLE, Int.reduceNeg, c15, snapRow, own, hl, l6', e6']
        simp only [markF, shutF, putC, e4, hm, if_true]
        rfl
      · simp -implicitDefEqProofs -dsimp only [go_sem, reduceIte, reduceCtorEq, Nat.reduceAdd, Nat.reduceMul, Nat.reduceSub, Nat.reduceDiv, Nat.reduceLT, Nat.reduceLeDiff, Nat.reduceEqDiff, Nat.reduceBEq, Nat.reduceBNe, Int.reduceToNat, Int.reduceEq, Int.reduceLT, Int.reduceLE, Int.reduceNeg, c15, hm, hs.op, hl, e6]
        simp only [markF, shutF, putC, e4, Option.some.injEq, hm, if_true, if_false]
        rfl
    | false =>
      simp -implicitDefEqProofs -dsimp only [go_sem, reduceIte, reduceCtorEq, Nat.reduceAdd, Nat.reduceMul, Nat.reduceSub, Nat.reduceDiv, Nat.reduceLT, Nat.reduceLeDiff, Nat.reduceEqDiff, Nat.reduceBEq, Nat.reduceBNe, Int.reduceToNat, Int.reduceEq, Int.reduceLT, Int.reduceLE, Int.reduceNeg, c15, snapRow, own, hq, hs.ch, hs.co, hs.cu, hs.op, hs.re, hl, e1, e2, e3, e4, e6, e7, hch, hpos, hpos1, hle, ht, m1, g2, setSet]
      by_cases ho : s.opn[p * s.values.length + q] = true
      · simp -implicitDefEqProofs -dsimp only [go_sem, reduceIte, reduceCtorEq, Nat.reduceAdd, Nat.reduceMul, Nat.reduceSub, Nat.reduceDiv, Nat.reduceLT, Nat.reduceLeDiff, Nat.reduceEqDiff, Nat.reduceBEq, Nat.reduceBNe, Int.reduceToNat, Int.reduceEq, Int.reduceLT, Int.reduceLE, Int.reduceNeg, c15, ho, hs.re, hl, e7, m7, g7, setSet]
        simp only [Bool.false_eq_true, if_false, recvF, putC, e1, e2, e6, e7, ho, if_true, Option.getD_some]
        rfl
      · have ho : s.opn[p * s.values.length + q] = false := by simpa using ho
        simp -implicitDefEqProofs -dsimp only [go_sem, reduceIte, reduceCtorEq, Nat.reduceAdd, Nat.reduceMul, Nat.reduceSub, Nat.reduceDiv, Nat.reduceLT, Nat.reduceLeDiff, Nat.reduceEqDiff, Nat.reduceBEq, Nat.reduceBNe, Int.reduceToNat, Int.reduceEq, Int.reduceLT, Int.reduceLE, Int.reduceNeg, c15, ho]
        simp only [Bool.false_eq_true, if_false, recvF, putC, e1, e2, e6, e7, ho, Option.some.injEq, Option.getD_some]
        rfl
theorem step1_ok {T : Nat → Option Fn} (hT : Tab15 T) {k : Nat} {s : Snap} (hs : Whole k s) (hk : k ≤ 1000000) (L : Nat → Lab) (hL : ∀ i, L i ≠ .own) (m : Mv) :
    EvF T 15 [] [.agg (snapRow L s), .agg (encM m)] [] (encR (stepF s m)) := by
  obtain ⟨kd, fr, to, v⟩ := m
  by_cases h3 : kd = 3
  · subst h3; exact step1_begin hT hs hk L hL fr to v
  by_cases h12 : kd = 1 ∨ kd = 2
  · by_cases hf : (0 ≤ fr ∧ fr < s.values.length) ∧ (0 ≤ to ∧ to < s.values.length) ∧ fr ≠ to
    · obtain ⟨p, rfl⟩ : ∃ p : Nat, fr = p := ⟨fr.toNat, by omega⟩
      obtain ⟨q, rfl⟩ : ∃ q : Nat, to = q := ⟨to.toNat, by omega⟩
      rcases h12 with rfl | rfl
      · exact step1_send hT hs hk L hL p q v (by omega) (by omega) (by omega)
      · exact step1_del hT hs hk L hL p q v (by omega) (by omega) (by omega)
    · have : stepF s ⟨kd, fr, to, v⟩ = (noSnap, 3) := by simp only [stepF]; rw [if_neg h3, if_pos h12, if_neg hf]
      rw [this]; exact step1_far hT hs L hL kd fr to v h12 hf
  · have : stepF s ⟨kd, fr, to, v⟩ = (noSnap, 3) := by simp only [stepF]; rw [if_neg h3, if_neg h12]
    rw [this]; exact step1_bad hT hs L hL kd fr to v h3 (by omega) (by omega)
end Pv

set_option maxRecDepth 100000
set_option linter.unusedVariables false
set_option linter.unusedSimpArgs false
namespace Pv
open Go
set_option maxHeartbeats 16000000
theorem copy_ok {T : Nat → Option Fn} (h37 : T 37 = some c37) {k : Nat} {s : Snap} (hs : Whole k s) (hk : k ≤ 1000000) (L : Nat → Lab) (hL : ∀ i, L i ≠ .own) :
    EvF T 37 [] [.agg (snapRow L s)] [] (.agg (snapRow own s), []) := by
  obtain ⟨n1, n5, co, cu, sa, ch, op, re, chk, rek⟩ := hs
  obtain ⟨a1, a2, a3, a4, a5, a6, a7⟩ := s
  simp only at n1 n5 co cu sa ch op re chk rek
  refine EvF.run h37 ?_
  have hq : a1.length * a1.length ≤ 25 := Nat.mul_le_mul n5 n5
  have m1 : (a1.length * 8 ≤ 2 ^ 47) = True := eq_true (by omega)
  have m2 : (a1.length * a1.length * 1 ≤ 2 ^ 47) = True := eq_true (by omega)
  simp -implicitDefEqProofs -dsimp only [go_sem, reduceIte, reduceCtorEq, Nat.reduceAdd, Nat.reduceMul, Nat.reduceSub, Nat.reduceDiv, Nat.reduceLT, Nat.reduceLeDiff, Nat.reduceEqDiff, Nat.reduceBEq, Nat.reduceBNe, Int.reduceToNat, Int.reduceEq, Int.reduceLT, Int.reduceLE, Int.reduceNeg, c37, snapRow, hL, co, cu, sa, ch, op, re, m1, m2]
  refine LoopW.intro (fun n t => ∃ i : Nat, n + i = a1.length * a1.length ∧ t = [(1, .one (.ptr 5001 0), 0), (2, .one (.ptr 5002 0), 0), (3, .one (.ptr 5003 0), 0), (4, .one (.sc (.int .i64 i)), 0),
    (5001, .agg (snapRow L ⟨a1, a2, a3, a4, a5, a6, a7⟩), 0), (5002, .agg (snapRow own noSnap), 0), (5003, .agg (snapRow own ⟨a1, a2, a3.take i, a4, a5, a6, []⟩), 0)]) ?_ (a1.length * a1.length) ?_
  · rintro n t ⟨i, hi, rfl⟩
    simp -implicitDefEqProofs -dsimp only [go_sem, reduceIte, reduceCtorEq, Nat.reduceAdd, Nat.reduceMul, Nat.reduceSub, Nat.reduceDiv, Nat.reduceLT, Nat.reduceLeDiff, Nat.reduceEqDiff, Nat.reduceBEq, Nat.reduceBNe, Int.reduceToNat, Int.reduceEq, Int.reduceLT, Int.reduceLE, Int.reduceNeg, c37, snapRow, own, noSnap, hL, ch]
    refine condW_intro (fun h => ?_) (fun h => ?_)
    · have h : i < a1.length * a1.length := by simpa using h
      have h3 : i < a3.length := by omega
      have e3 : a3[i]? = some a3[i] := by simp [h3]
      have b3 := chk a3[i] (by simp)
      have m3 : (a3[i].length * 16 ≤ 2 ^ 47) = True := eq_true (by omega)
      have m5 : (((a3.take i).length + 1) * 24 ≤ 2 ^ 47) = True := eq_true (by simp; omega)
      have t3 : a3.take i ++ [a3[i]] = a3.take (i + 1) := by simp
      simp -implicitDefEqProofs -dsimp only [go_sem, reduceIte, reduceCtorEq, Nat.reduceAdd, Nat.reduceMul, Nat.reduceSub, Nat.reduceDiv, Nat.reduceLT, Nat.reduceLeDiff, Nat.reduceEqDiff, Nat.reduceBEq, Nat.reduceBNe, Int.reduceToNat, Int.reduceEq, Int.reduceLT, Int.reduceLE, Int.reduceNeg, c37, hL, e3, h3, m3, m5, t3, wS (show i < 4611686018427387904 by omega)]
      refine ⟨n - 1, by omega, i + 1, by omega, rfl⟩
    · have h : ¬ i < a1.length * a1.length := by simpa using h
      have t3 : a3.take i = a3 := List.take_of_length_le (by omega)
      simp -implicitDefEqProofs -dsimp only [go_sem, reduceIte, reduceCtorEq, Nat.reduceAdd, Nat.reduceMul, Nat.reduceSub, Nat.reduceDiv, Nat.reduceLT, Nat.reduceLeDiff, Nat.reduceEqDiff, Nat.reduceBEq, Nat.reduceBNe, Int.reduceToNat, Int.reduceEq, Int.reduceLT, Int.reduceLE, Int.reduceNeg, c37, t3]
      refine LoopW.intro (fun n t => ∃ i : Nat, n + i = a1.length * a1.length ∧ t = [(1, .one (.ptr 5001 0), 0), (2, .one (.ptr 5002 0), 0), (3, .one (.ptr 5003 0), 0), (5, .one (.sc (.int .i64 i)), 0),
        (5001, .agg (snapRow L ⟨a1, a2, a3, a4, a5, a6, a7⟩), 0), (5002, .agg (snapRow own noSnap), 0), (5003, .agg (snapRow own ⟨a1, a2, a3, a4, a5, a6, a7.take i⟩), 0)]) ?_ (a1.length * a1.length) ?_
      · rintro n t ⟨i, hi, rfl⟩
        simp -implicitDefEqProofs -dsimp only [go_sem, reduceIte, reduceCtorEq, Nat.reduceAdd, Nat.reduceMul, Nat.reduceSub, Nat.reduceDiv, Nat.reduceLT, Nat.reduceLeDiff, Nat.reduceEqDiff, Nat.reduceBEq, Nat.reduceBNe, Int.reduceToNat, Int.reduceEq, Int.reduceLT, Int.reduceLE, Int.reduceNeg, c37, snapRow, own, noSnap, hL, re]
        refine condW_intro (fun h => ?_) (fun h => ?_)
        · have h : i < a1.length * a1.length := by simpa using h
          have h7 : i < a7.length := by omega
          have e7 : a7[i]? = some a7[i] := by simp [h7]
          have b7 := rek a7[i] (by simp)
          have m4 : (a7[i].length * 8 ≤ 2 ^ 47) = True := eq_true (by omega)
          have m6 : (((a7.take i).length + 1) * 24 ≤ 2 ^ 47) = True := eq_true (by simp; omega)
          have t7 : a7.take i ++ [a7[i]] = a7.take (i + 1) := by simp
          simp -implicitDefEqProofs -dsimp only [go_sem, reduceIte, reduceCtorEq, Nat.reduceAdd, Nat.reduceMul, Nat.reduceSub, Nat.reduceDiv, Nat.reduceLT, Nat.reduceLeDiff, Nat.reduceEqDiff, Nat.reduceBEq, Nat.reduceBNe, Int.reduceToNat, Int.reduceEq, Int.reduceLT, Int.reduceLE, Int.reduceNeg, c37, hL, e7, h7, m4, m6, t7, wS (show i < 4611686018427387904 by omega)]
          refine ⟨n - 1, by omega, i + 1, by omega, rfl⟩
        · have h : ¬ i < a1.length * a1.length := by simpa using h
          have t7 : a7.take i = a7 := List.take_of_length_le (by omega)
          simp -implicitDefEqProofs -dsimp only [go_sem, reduceIte, reduceCtorEq, Nat.reduceAdd, Nat.reduceMul, Nat.reduceSub, Nat.reduceDiv, Nat.reduceLT, Nat.reduceLeDiff, Nat.reduceEqDiff, Nat.reduceBEq, Nat.reduceBNe, Int.reduceToNat, Int.reduceEq, Int.reduceLT, Int.reduceLE, Int.reduceNeg, c37, t7]
          rfl
      · simp -implicitDefEqProofs -dsimp only [go_sem, reduceIte, reduceCtorEq, Nat.reduceAdd, Nat.reduceMul, Nat.reduceSub, Nat.reduceDiv, Nat.reduceLT, Nat.reduceLeDiff, Nat.reduceEqDiff, Nat.reduceBEq, Nat.reduceBNe, Int.reduceToNat, Int.reduceEq, Int.reduceLT, Int.reduceLE, Int.reduceNeg, c37]
        refine ⟨0, by omega, ?_⟩
        simp [snapRow, own, noSnap]
  · simp -implicitDefEqProofs -dsimp only [go_sem, reduceIte, reduceCtorEq, Nat.reduceAdd, Nat.reduceMul, Nat.reduceSub, Nat.reduceDiv, Nat.reduceLT, Nat.reduceLeDiff, Nat.reduceEqDiff, Nat.reduceBEq, Nat.reduceBNe, Int.reduceToNat, Int.reduceEq, Int.reduceLT, Int.reduceLE, Int.reduceNeg, c37]
    refine ⟨0, by omega, ?_⟩
    simp [snapRow, own, noSnap]
theorem refuse_ok {T : Nat → Option Fn} (h36 : T 36 = some c36) {k : Nat} {s : Snap} (hs : Whole k s) (L : Nat → Lab) (hL : ∀ i, L i ≠ .own) (m : Mv) :
    EvF T 36 [] [.agg (snapRow L s), .agg (encM m)] [] (.one (.sc (.int .i64 (stepF s m).2)), []) := by
  obtain ⟨kd, fr, to, v⟩ := m
  have hn := hs.n5
  have hnn : s.values.length * s.values.length ≤ 25 := Nat.mul_le_mul hn hn
  refine EvF.run h36 ?_
  by_cases h1 : kd < 1
  · simp -implicitDefEqProofs -dsimp only [go_sem, reduceIte, reduceCtorEq, Nat.reduceAdd, Nat.reduceMul, Nat.reduceSub, Nat.reduceDiv, Nat.reduceLT, Nat.reduceLeDiff, Nat.reduceEqDiff, Nat.reduceBEq, Nat.reduceBNe, Int.reduceToNat, Int.reduceEq, Int.reduceLT, Int.reduceLE, Int.reduceNeg, c36, snapRow, hL, h1]
    have : stepF s ⟨kd, fr, to, v⟩ = (noSnap, 3) := by simp only [stepF]; rw [if_neg (by omega), if_neg (by omega)]
    rw [this]
  by_cases h2 : 3 < kd
  · simp -implicitDefEqProofs -dsimp only [go_sem, reduceIte, reduceCtorEq, Nat.reduceAdd, Nat.reduceMul, Nat.reduceSub, Nat.reduceDiv, Nat.reduceLT, Nat.reduceLeDiff, Nat.reduceEqDiff, Nat.reduceBEq, Nat.reduceBNe, Int.reduceToNat, Int.reduceEq, Int.reduceLT, Int.reduceLE, Int.reduceNeg, c36, snapRow, hL, h1, h2]
    have : stepF s ⟨kd, fr, to, v⟩ = (noSnap, 3) := by simp only [stepF]; rw [if_neg (by omega), if_neg (by omega)]
    rw [this]
  have far : ¬ (0 ≤ fr ∧ fr < s.values.length) → stepF s ⟨kd, fr, to, v⟩ = (noSnap, 3) := by
    intro hf
    simp only [stepF]
    split
    · first | rfl | rw [if_neg hf]
    · split
      · rw [if_neg (fun h => hf h.1)]
      · rfl
  by_cases h3 : fr < 0
  · simp -implicitDefEqProofs -dsimp only [go_sem, reduceIte, reduceCtorEq, Nat.reduceAdd, Nat.reduceMul, Nat.reduceSub, Nat.reduceDiv, Nat.reduceLT, Nat.reduceLeDiff, Nat.reduceEqDiff, Nat.reduceBEq, Nat.reduceBNe, Int.reduceToNat, Int.reduceEq, Int.reduceLT, Int.reduceLE, Int.reduceNeg, c36, snapRow, hL, h1, h2, h3]
    rw [far (by omega)]
  by_cases h4 : (s.values.length : Int) ≤ fr
  · simp -implicitDefEqProofs -dsimp only [go_sem, reduceIte, reduceCtorEq, Nat.reduceAdd, Nat.reduceMul, Nat.reduceSub, Nat.reduceDiv, Nat.reduceLT, Nat.reduceLeDiff, Nat.reduceEqDiff, Nat.reduceBEq, Nat.reduceBNe, Int.reduceToNat, Int.reduceEq, Int.reduceLT, Int.reduceLE, Int.reduceNeg, c36, snapRow, hL, h1, h2, h3, h4]
    rw [far (by omega)]
  obtain ⟨p, rfl⟩ : ∃ p : Nat, fr = p := ⟨fr.toNat, by omega⟩
  have hp : p < s.values.length := by omega
  by_cases h5 : kd = 3
  · subst h5
    simp -implicitDefEqProofs -dsimp only [go_sem, reduceIte, reduceCtorEq, Nat.reduceAdd, Nat.reduceMul, Nat.reduceSub, Nat.reduceDiv, Nat.reduceLT, Nat.reduceLeDiff, Nat.reduceEqDiff, Nat.reduceBEq, Nat.reduceBNe, Int.reduceToNat, Int.reduceEq, Int.reduceLT, Int.reduceLE, Int.reduceNeg, c36, snapRow, hL, h3, h4]
    simp [stepF, hp]
  have far2 : ¬ ((0 ≤ to ∧ to < s.values.length) ∧ (p : Int) ≠ to) → stepF s ⟨kd, p, to, v⟩ = (noSnap, 3) := by
    intro hf
    simp only [stepF]
    rw [if_neg h5]
    split
    · rw [if_neg (fun h => hf h.2)]
    · rfl
  by_cases h6 : to < 0
  · simp -implicitDefEqProofs -dsimp only [go_sem, reduceIte, reduceCtorEq, Nat.reduceAdd, Nat.reduceMul, Nat.reduceSub, Nat.reduceDiv, Nat.reduceLT, Nat.reduceLeDiff, Nat.reduceEqDiff, Nat.reduceBEq, Nat.reduceBNe, Int.reduceToNat, Int.reduceEq, Int.reduceLT, Int.reduceLE, Int.reduceNeg, c36, snapRow, hL, h1, h2, h3, h4, h5, h6]
    rw [far2 (by omega)]
  by_cases h7 : (s.values.length : Int) ≤ to
  · simp -implicitDefEqProofs -dsimp only [go_sem, reduceIte, reduceCtorEq, Nat.reduceAdd, Nat.reduceMul, Nat.reduceSub, Nat.reduceDiv, Nat.reduceLT, Nat.reduceLeDiff, Nat.reduceEqDiff, Nat.reduceBEq, Nat.reduceBNe, Int.reduceToNat, Int.reduceEq, Int.reduceLT, Int.reduceLE, Int.reduceNeg, c36, snapRow, hL, h1, h2, h3, h4, h5, h6, h7]
    rw [far2 (by omega)]
  obtain ⟨q, rfl⟩ : ∃ q : Nat, to = q := ⟨to.toNat, by omega⟩
  have hq : q < s.values.length := by omega
  by_cases h8 : q = p
  · simp -implicitDefEqProofs -dsimp only [go_sem, reduceIte, reduceCtorEq, Nat.reduceAdd, Nat.reduceMul, Nat.reduceSub, Nat.reduceDiv, Nat.reduceLT, Nat.reduceLeDiff, Nat.reduceEqDiff, Nat.reduceBEq, Nat.reduceBNe, Int.reduceToNat, Int.reduceEq, Int.reduceLT, Int.reduceLE, Int.reduceNeg, c36, snapRow, hL, h1, h2, h3, h4, h5, h6, h7, h8]
    subst h8
    rw [far2 (by omega)]
  have hl := chan_lt hp hq
  have w1 := wM (a := p) (b := s.values.length) (by omega)
  have w2 := wA (a := p * s.values.length) (b := q) (by omega)
  have l3 : p * s.values.length + q < s.chans.length := by rw [hs.ch]; exact hl
  have e3 : s.chans[p * s.values.length + q]? = some s.chans[p * s.values.length + q] := by simp [l3]
  have h8' : ¬ p = q := fun e => h8 e.symm
  have h12 : kd = 1 ∨ kd = 2 := by omega
  rcases h12 with rfl | rfl
  · have x2 : stepF s ⟨1, p, q, v⟩ = if 256 ≤ s.chans[p * s.values.length + q].length then (noSnap, 4) else (sendF s (p * s.values.length + q) p v, 0) := by
      simp [stepF, hp, hq, h8', e3, Int.ofNat_inj]
    rw [x2]
    by_cases h256 : 256 ≤ s.chans[p * s.values.length + q].length
    · have h256' : ((256 : Int) ≤ (s.chans[p * s.values.length + q].length : Int)) = True := eq_true (by omega)
      simp -implicitDefEqProofs -dsimp only [go_sem, reduceIte, reduceCtorEq, Nat.reduceAdd, Nat.reduceMul, Nat.reduceSub, Nat.reduceDiv, Nat.reduceLT, Nat.reduceLeDiff, Nat.reduceEqDiff, Nat.reduceBEq, Nat.reduceBNe, Int.reduceToNat, Int.reduceEq, Int.reduceLT, Int.reduceLE, Int.reduceNeg, c36, snapRow, hL, h3, h4, h6, h7, h8, w1, w2, hs.ch, hl, e3, h256']
      rw [if_pos h256]
    · have h256' : ((256 : Int) ≤ (s.chans[p * s.values.length + q].length : Int)) = False := eq_false (by omega)
      simp -implicitDefEqProofs -dsimp only [go_sem, reduceIte, reduceCtorEq, Nat.reduceAdd, Nat.reduceMul, Nat.reduceSub, Nat.reduceDiv, Nat.reduceLT, Nat.reduceLeDiff, Nat.reduceEqDiff, Nat.reduceBEq, Nat.reduceBNe, Int.reduceToNat, Int.reduceEq, Int.reduceLT, Int.reduceLE, Int.reduceNeg, c36, snapRow, hL, h3, h4, h6, h7, h8, w1, w2, hs.ch, hl, e3, h256']
      rw [if_neg h256]
  · have x2 : stepF s ⟨2, p, q, v⟩ = delF s (p * s.values.length + q) q := by
      simp [stepF, hp, hq, h8', Int.ofNat_inj]
    rw [x2]
    have x3 : (delF s (p * s.values.length + q) q).2 = if s.chans[p * s.values.length + q].length = 0 then 11 else 0 := by
      simp only [delF, e3, Option.getD_some]
      cases s.chans[p * s.values.length + q] with
      | nil => rfl
      | cons x r => obtain ⟨b, x⟩ := x; cases b <;> simp
    rw [x3]
    by_cases h0 : s.chans[p * s.values.length + q].length = 0
    · have h0' : ((s.chans[p * s.values.length + q].length : Int) = 0) = True := eq_true (by omega)
      simp -implicitDefEqProofs -dsimp only [go_sem, reduceIte, reduceCtorEq, Nat.reduceAdd, Nat.reduceMul, Nat.reduceSub, Nat.reduceDiv, Nat.reduceLT, Nat.reduceLeDiff, Nat.reduceEqDiff, Nat.reduceBEq, Nat.reduceBNe, Int.reduceToNat, Int.reduceEq, Int.reduceLT, Int.reduceLE, Int.reduceNeg, c36, snapRow, hL, h3, h4, h6, h7, h8, w1, w2, hs.ch, hl, e3, h0']
      rw [if_pos h0]
    · have h0' : ((s.chans[p * s.values.length + q].length : Int) = 0) = False := eq_false (by omega)
      simp -implicitDefEqProofs -dsimp only [go_sem, reduceIte, reduceCtorEq, Nat.reduceAdd, Nat.reduceMul, Nat.reduceSub, Nat.reduceDiv, Nat.reduceLT, Nat.reduceLeDiff, Nat.reduceEqDiff, Nat.reduceBEq, Nat.reduceBNe, Int.reduceToNat, Int.reduceEq, Int.reduceLT, Int.reduceLE, Int.reduceNeg, c36, snapRow, hL, h3, h4, h6, h7, h8, w1, w2, hs.ch, hl, e3, h0']
      rw [if_neg h0]
end Pv

set_option maxRecDepth 100000
set_option linter.unusedVariables false
set_option linter.unusedSimpArgs false
namespace Pv
open Go
structure Tab16 (T : Nat → Option Fn) : Prop where
  h16 : T 16 = some c16
  h36 : T 36 = some c36
  h37 : T 37 = some c37
  h38 : T 38 = some c38
theorem stepF_err (s : Snap) (m : Mv) (h : (stepF s m).2 ≠ 0) : (stepF s m).1 = noSnap := by
  unfold stepF at h ⊢
  split
  · rename_i h3; simp only [h3, if_true] at h
    split
    · rename_i hf; simp [hf] at h
    · rfl
  · rename_i h3; simp only [h3, if_false] at h
    split
    · rename_i h12; simp only [h12, if_true] at h
      split
      · rename_i hf; simp only [hf, if_true] at h
        split
        · rename_i h1; simp only [h1, if_true] at h
          split
          · rfl
          · rename_i hl; simp [hl, hf.2.2] at h
        · rename_i h1; simp only [h1, if_false] at h
          unfold delF at h ⊢
          split
          · rfl
          · rename_i hh; simp [hh, hf.2.2] at h
          · rename_i hh; simp [hh, hf.2.2] at h
      · rfl
    · rfl
set_option maxHeartbeats 16000000
theorem step2_send {T : Nat → Option Fn} (hT : Tab16 T) {k : Nat} {s : Snap} (hs : Whole k s) (hk : k ≤ 1000000) (L : Nat → Lab) (hL : ∀ i, L i ≠ .own) (p q : Nat) (v : Int) (hp : p < s.values.length) (hq : q < s.values.length)
    (hst : stepF s ⟨1, p, q, v⟩ = (sendF s (p * s.values.length + q) p v, 0)) :
    EvF T 16 [] [.agg (snapRow L s), .agg (encM ⟨1, p, q, v⟩)] [] (encR (stepF s ⟨1, p, q, v⟩)) := by
  obtain ⟨h16, h36, h37, h38⟩ := hT
  have hr := refuse_ok h36 hs L hL ⟨1, p, q, v⟩
  have hc := copy_ok h37 hs hk L hL
  rw [hst] at hr ⊢
  have hn := hs.n5
  have hnn : s.values.length * s.values.length ≤ 25 := Nat.mul_le_mul hn hn
  have hl := chan_lt hp hq
  have w1 := wM (a := p) (b := s.values.length) (by omega)
  have w2 := wA (a := p * s.values.length) (b := q) (by omega)
  have l3 : p * s.values.length + q < s.chans.length := by rw [hs.ch]; exact hl
  have l2 : p < s.counts.length := by rw [hs.co]; exact hp
  have e3 : s.chans[p * s.values.length + q]? = some s.chans[p * s.values.length + q] := by simp [l3]
  have e1 : s.values[p]? = some s.values[p] := by simp [hp]
  have e2 : s.counts[p]? = some s.counts[p] := by simp [l2]
  have b3 := hs.chk s.chans[p * s.values.length + q] (by simp)
  have m1 : ((s.chans[p * s.values.length + q].length + 1) * 16 ≤ 2 ^ 47) = True := eq_true (by omega)
  have g2 : ∀ x : List V, ((s.chans.map (encS .own 2 encP)).set (p * s.values.length + q) x)[p * s.values.length + q]? = some x := fun x => getSet (by simp [l3])
  refine EvF.run h16 ?_
  simp -implicitDefEqProofs -dsimp only [go_sem, reduceIte, reduceCtorEq, Nat.reduceAdd, Nat.reduceMul, Nat.reduceSub, Nat.reduceDiv, Nat.reduceLT, Nat.reduceLeDiff, Nat.reduceEqDiff, Nat.reduceBEq, Nat.reduceBNe, Int.reduceToNat, Int.reduceEq, Int.reduceLT, Int.reduceLE, Int.reduceNeg, c16, snapRow, hL]
  refine CallF.intro hr ?_
  simp -implicitDefEqProofs -dsimp only [go_sem, reduceIte, reduceCtorEq, Nat.reduceAdd, Nat.reduceMul, Nat.reduceSub, Nat.reduceDiv, Nat.reduceLT, Nat.reduceLeDiff, Nat.reduceEqDiff, Nat.reduceBEq, Nat.reduceBNe, Int.reduceToNat, Int.reduceEq, Int.reduceLT, Int.reduceLE, Int.reduceNeg, c16, snapRow, hL]
  refine CallF.intro hc ?_
  simp -implicitDefEqProofs -dsimp only [go_sem, reduceIte, reduceCtorEq, Nat.reduceAdd, Nat.reduceMul, Nat.reduceSub, Nat.reduceDiv, Nat.reduceLT, Nat.reduceLeDiff, Nat.reduceEqDiff, Nat.reduceBEq, Nat.reduceBNe, Int.reduceToNat, Int.reduceEq, Int.reduceLT, Int.reduceLE, Int.reduceNeg, c16, snapRow, hL, own, w1, w2, hp, hs.ch, hs.co, hl, e1, e2, e3, m1, g2, setSet]
  simp only [sendF, e1, e2, e3, Option.getD_some]
  rfl
theorem step2_begin {T : Nat → Option Fn} (hT : Tab16 T) {k : Nat} {s : Snap} (hs : Whole k s) (hk : k ≤ 1000000) (hcn : ∀ x ∈ s.cut, -1 ≤ x) (L : Nat → Lab) (hL : ∀ i, L i ≠ .own) (p : Nat) (to v : Int) (hp : p < s.values.length) :
    EvF T 16 [] [.agg (snapRow L s), .agg (encM ⟨3, p, to, v⟩)] [] (encR (stepF s ⟨3, p, to, v⟩)) := by
  obtain ⟨h16, h36, h37, h38⟩ := hT
  have hr := refuse_ok h36 hs L hL ⟨3, p, to, v⟩
  have hc := copy_ok h37 hs hk L hL
  have hst : stepF s ⟨3, p, to, v⟩ = (markF s p, 0) := by simp [stepF, hp]
  rw [hst] at hr ⊢
  have hn := hs.n5
  have hp4 : p < s.cut.length := by rw [hs.cu]; exact hp
  have e4 : s.cut[p]? = some s.cut[p] := by simp [hp4]
  have hc4 := hcn s.cut[p] (by simp)
  refine EvF.run h16 ?_
  simp -implicitDefEqProofs -dsimp only [go_sem, reduceIte, reduceCtorEq, Nat.reduceAdd, Nat.reduceMul, Nat.reduceSub, Nat.reduceDiv, Nat.reduceLT, Nat.reduceLeDiff, Nat.reduceEqDiff, Nat.reduceBEq, Nat.reduceBNe, Int.reduceToNat, Int.reduceEq, Int.reduceLT, Int.reduceLE, Int.reduceNeg, c16, snapRow, hL]
  refine CallF.intro hr ?_
  simp -implicitDefEqProofs -dsimp only [go_sem, reduceIte, reduceCtorEq, Nat.reduceAdd, Nat.reduceMul, Nat.reduceSub, Nat.reduceDiv, Nat.reduceLT, Nat.reduceLeDiff, Nat.reduceEqDiff, Nat.reduceBEq, Nat.reduceBNe, Int.reduceToNat, Int.reduceEq, Int.reduceLT, Int.reduceLE, Int.reduceNeg, c16, snapRow, hL]
  refine CallF.intro hc ?_
  simp -implicitDefEqProofs -dsimp only [go_sem, reduceIte, reduceCtorEq, Nat.reduceAdd, Nat.reduceMul, Nat.reduceSub, Nat.reduceDiv, Nat.reduceLT, Nat.reduceLeDiff, Nat.reduceEqDiff, Nat.reduceBEq, Nat.reduceBNe, Int.reduceToNat, Int.reduceEq, Int.reduceLT, Int.reduceLE, Int.reduceNeg, c16, snapRow, hL, own, hp, hs.cu, e4]
  by_cases hm : s.cut[p] = -1
  · simp -implicitDefEqProofs -dsimp only [go_sem, reduceIte, reduceCtorEq, Nat.reduceAdd, Nat.reduceMul, Nat.reduceSub, Nat.reduceDiv, Nat.reduceLT, Nat.reduceLeDiff, Nat.reduceEqDiff, Nat.reduceBEq, Nat.reduceBNe, Int.reduceToNat, Int.reduceEq, Int.reduceLT, Int.reduceLE, Int.reduceNeg, c16, hm]
    refine CallF.intro (rec2_ok h38 hs hk hp) ?_
    simp -implicitDefEqProofs -dsimp only [go_sem, reduceIte, reduceCtorEq, Nat.reduceAdd, Nat.reduceMul, Nat.reduceSub, Nat.reduceDiv, Nat.reduceLT, Nat.reduceLeDiff, Nat.reduceEqDiff, Nat.reduceBEq, Nat.reduceBNe, Int.reduceToNat, Int.reduceEq, Int.reduceLT, Int.reduceLE, Int.reduceNeg, c16, snapRow, own]
    simp only [markF, e4, hm, if_true]
    rfl
  · have hm' : (s.cut[p] < 0) = False := eq_false (by omega)
    simp -implicitDefEqProofs -dsimp only [go_sem, reduceIte, reduceCtorEq, Nat.reduceAdd, Nat.reduceMul, Nat.reduceSub, Nat.reduceDiv, Nat.reduceLT, Nat.reduceLeDiff, Nat.reduceEqDiff, Nat.reduceBEq, Nat.reduceBNe, Int.reduceToNat, Int.reduceEq, Int.reduceLT, Int.reduceLE, Int.reduceNeg, c16, hm']
    simp only [markF, e4, Option.some.injEq, hm, if_false]
    rfl
theorem step2_del {T : Nat → Option Fn} (hT : Tab16 T) {k : Nat} {s : Snap} (hs : Whole k s) (hk : k ≤ 1000000) (hcn : ∀ x ∈ s.cut, -1 ≤ x) (L : Nat → Lab) (hL : ∀ i, L i ≠ .own) (p q : Nat) (v : Int) (hp : p < s.values.length) (hq : q < s.values.length)
    (hst : stepF s ⟨2, p, q, v⟩ = delF s (p * s.values.length + q) q) (h0 : (delF s (p * s.values.length + q) q).2 = 0) :
    EvF T 16 [] [.agg (snapRow L s), .agg (encM ⟨2, p, q, v⟩)] [] (encR (stepF s ⟨2, p, q, v⟩)) := by
  obtain ⟨h16, h36, h37, h38⟩ := hT
  have hr := refuse_ok h36 hs L hL ⟨2, p, q, v⟩
  have hc := copy_ok h37 hs hk L hL
  rw [hst] at hr ⊢
  rw [h0] at hr
  have hn := hs.n5
  have hnn : s.values.length * s.values.length ≤ 25 := Nat.mul_le_mul hn hn
  have hl := chan_lt hp hq
  have w1 := wM (a := p) (b := s.values.length) (by omega)
  have w2 := wA (a := p * s.values.length) (b := q) (by omega)
  have l3 : p * s.values.length + q < s.chans.length := by rw [hs.ch]; exact hl
  have l2 : q < s.counts.length := by rw [hs.co]; exact hq
  have l4 : q < s.cut.length := by rw [hs.cu]; exact hq
  have l6 : p * s.values.length + q < s.opn.length := by rw [hs.op]; exact hl
  have l7 : p * s.values.length + q < s.record.length := by rw [hs.re]; exact hl
  have e3 : s.chans[p * s.values.length + q]? = some s.chans[p * s.values.length + q] := by simp [l3]
  have e1 : s.values[q]? = some s.values[q] := by simp [hq]
  have e2 : s.counts[q]? = some s.counts[q] := by simp [l2]
  have e4 : s.cut[q]? = some s.cut[q] := by simp [l4]
  have e6 : s.opn[p * s.values.length + q]? = some s.opn[p * s.values.length + q] := by simp [l6]
  have e7 : s.record[p * s.values.length + q]? = some s.record[p * s.values.length + q] := by simp [l7]
  have b3 := hs.chk s.chans[p * s.values.length + q] (by simp)
  have b7 := hs.rek s.record[p * s.values.length + q] (by simp)
  have m7 : ((s.record[p * s.values.length + q].length + 1) * 8 ≤ 2 ^ 47) = True := eq_true (by omega)
  have g2 : ∀ x : List V, ((s.chans.map (encS .own 2 encP)).set (p * s.values.length + q) x)[p * s.values.length + q]? = some x := fun x => getSet (by simp [l3])
  have g7 : ∀ x : List V, ((s.record.map (encS .own 1 encI)).set (p * s.values.length + q) x)[p * s.values.length + q]? = some x := fun x => getSet (by simp [l7])
  have hc4 := hcn s.cut[q] (by simp)
  cases hch : s.chans[p * s.values.length + q] with
  | nil => simp [delF, e3, hch] at h0
  | cons x r =>
    obtain ⟨mk, x⟩ := x
    rw [hch] at b3
    simp only [List.length_cons] at b3
    have hpos : ((0 : Int) < ((r.length + 1 : Nat) : Int)) = True := eq_true (by omega)
    have hpos1 : ((1 : Int) ≤ ((r.length + 1 : Nat) : Int)) = True := eq_true (by omega)
    have hle : (((r.length + 1 : Nat) : Int) ≤ ((r.length + 1 : Nat) : Int)) = True := eq_true (by omega)
    have ht : List.take (r.length + 1 - 1) r = r := by simp
    have m1 : (r.length * 16 ≤ 2 ^ 47) = True := eq_true (by omega)
    have x3 : delF s (p * s.values.length + q) q = if mk = true then (shutF (markF (putC s (p * s.values.length + q) r) q) (p * s.values.length + q), 0) else (recvF (putC s (p * s.values.length + q) r) (p * s.values.length + q) q x, 0) := by
      simp only [delF, e3, hch, Option.getD_some]
      cases mk <;> rfl
    rw [x3]
    refine EvF.run h16 ?_
    simp -implicitDefEqProofs -dsimp only [go_sem, reduceIte, reduceCtorEq, Nat.reduceAdd, Nat.reduceMul, Nat.reduceSub, Nat.reduceDiv, Nat.reduceLT, Nat.reduceLeDiff, Nat.reduceEqDiff, Nat.reduceBEq, Nat.reduceBNe, Int.reduceToNat, Int.reduceEq, Int.reduceLT, Int.reduceLE, Int.reduceNeg, c16, snapRow, hL]
    refine CallF.intro hr ?_
    simp -implicitDefEqProofs -dsimp only [go_sem, reduceIte, reduceCtorEq, Nat.reduceAdd, Nat.reduceMul, Nat.reduceSub, Nat.reduceDiv, Nat.reduceLT, Nat.reduceLeDiff, Nat.reduceEqDiff, Nat.reduceBEq, Nat.reduceBNe, Int.reduceToNat, Int.reduceEq, Int.reduceLT, Int.reduceLE, Int.reduceNeg, c16, snapRow, hL]
    refine CallF.intro hc ?_
    cases mk with
    | true =>
      simp -implicitDefEqProofs -dsimp only [go_sem, reduceIte, reduceCtorEq, Nat.reduceAdd, Nat.reduceMul, Nat.reduceSub, Nat.reduceDiv, Nat.reduceLT, Nat.reduceLeDiff, Nat.reduceEqDiff, Nat.reduceBEq, Nat.reduceBNe, Int.reduceToNat, Int.reduceEq, Int.reduceLT, Int.reduceLE, Int.reduceNeg, c16, snapRow, hL, own, w1, w2, hq, hs.ch, hs.co, hs.cu, hl, e1, e2, e3, e4, hch, hpos, hpos1, hle, ht, m1, g2, setSet]
      have hs' : Whole k (putC s (p * s.values.length + q) r) := by
        obtain ⟨n1, n5, co, cu, sa, ch, op, re, chk, rek⟩ := hs
        refine ⟨n1, n5, co, cu, sa, by simp only [putC, List.length_set]; exact ch, op, re, fun y hy => ?_, rek⟩
        simp only [putC] at hy
        rcases List.mem_or_eq_of_mem_set hy with h | h
        · exact chk y h
        · rw [h]; omega
      by_cases hm : s.cut[q] = -1
      · simp -implicitDefEqProofs -dsimp only [go_sem, reduceIte, reduceCtorEq, Nat.reduceAdd, Nat.reduceMul, Nat.reduceSub, Nat.reduceDiv, Nat.reduceLT, Nat.reduceLeDiff, Nat.reduceEqDiff, Nat.reduceBEq, Nat.reduceBNe, Int.reduceToNat, Int.reduceEq, Int.reduceLT, Int.reduceLE, Int.reduceNeg, c16, hm]
        refine CallF.intro (rec2_ok h38 hs' hk (p := q) hq) ?_
        have l6' : (p * s.values.length + q < (recF (putC s (p * s.values.length + q) r) q).opn.length) = True := by
          apply eq_true
          simp only [recF, putC]
          rw [(recTo_len _).2]
          exact l6
        have e6' : (recF (putC s (p * s.values.length + q) r) q).opn[p * s.values.length + q]? = some ((recF (putC s (p * s.values.length + q) r) q).opn[p * s.values.length + q]'(of_eq_true l6')) := by simp
        simp -implicitDefEqProofs -dsimp only [go_sem, reduceIte, reduceCtorEq, Nat.reduceAdd, Nat.reduceMul, Nat.reduceSub, Nat.reduceDiv, Nat.reduceLT, Nat.reduceLeDiff, Nat.reduceEqDiff, Nat.reduceBEq, Nat.reduceBNe, Int.reduceToNat, Int.reduceEq, Int.reduceLT, Int.reduceLE, Int.reduceNeg, c16, snapRow, hL, own, hl, l6', e6']
        simp only [markF, shutF, putC, e4, hm, if_true]
        rfl
      · have hm' : (s.cut[q] < 0) = False := eq_false (by omega)
        simp -implicitDefEqProofs -dsimp only [go_sem, reduceIte, reduceCtorEq, Nat.reduceAdd, Nat.reduceMul, Nat.reduceSub, Nat.reduceDiv, Nat.reduceLT, Nat.reduceLeDiff, Nat.reduceEqDiff, Nat.reduceBEq, Nat.reduceBNe, Int.reduceToNat, Int.reduceEq, Int.reduceLT, Int.reduceLE, Int.reduceNeg, c16, hm', hs.op, hl, e6]
        simp only [markF, shutF, putC, e4, Option.some.injEq, hm, if_true, if_false]
        rfl
    | false =>
      simp -implicitDefEqProofs -dsimp only [go_sem, reduceIte, reduceCtorEq, Nat.reduceAdd, Nat.reduceMul, Nat.reduceSub, Nat.reduceDiv, Nat.reduceLT, Nat.reduceLeDiff, Nat.reduceEqDiff, Nat.reduceBEq, Nat.reduceBNe, Int.reduceToNat, Int.reduceEq, Int.reduceLT, Int.reduceLE, Int.reduceNeg, c16, snapRow, hL, own, w1, w2, hq, hs.ch, hs.co, hs.cu, hs.op, hs.re, hl, e1, e2, e3, e4, e6, e7, hch, hpos, hpos1, hle, ht, m1, g2, setSet]
      by_cases ho : s.opn[p * s.values.length + q] = true
      · simp -implicitDefEqProofs -dsimp only [go_sem, reduceIte, reduceCtorEq, Nat.reduceAdd, Nat.reduceMul, Nat.reduceSub, Nat.reduceDiv, Nat.reduceLT, Nat.reduceLeDiff, Nat.reduceEqDiff, Nat.reduceBEq, Nat.reduceBNe, Int.reduceToNat, Int.reduceEq, Int.reduceLT, Int.reduceLE, Int.reduceNeg, c16, ho, hs.re, hl, e7, m7, g7, setSet]
        simp only [Bool.false_eq_true, if_false, recvF, putC, e1, e2, e6, e7, ho, if_true, Option.getD_some]
        rfl
      · have ho : s.opn[p * s.values.length + q] = false := by simpa using ho
        simp -implicitDefEqProofs -dsimp only [go_sem, reduceIte, reduceCtorEq, Nat.reduceAdd, Nat.reduceMul, Nat.reduceSub, Nat.reduceDiv, Nat.reduceLT, Nat.reduceLeDiff, Nat.reduceEqDiff, Nat.reduceBEq, Nat.reduceBNe, Int.reduceToNat, Int.reduceEq, Int.reduceLT, Int.reduceLE, Int.reduceNeg, c16, ho]
        simp only [Bool.false_eq_true, if_false, recvF, putC, e1, e2, e6, e7, ho, Option.some.injEq, Option.getD_some]
        rfl
theorem step2_ok {T : Nat → Option Fn} (hT : Tab16 T) {k : Nat} {s : Snap} (hs : Whole k s) (hk : k ≤ 1000000) (hcn : ∀ x ∈ s.cut, -1 ≤ x) (L : Nat → Lab) (hL : ∀ i, L i ≠ .own) (m : Mv) :
    EvF T 16 [] [.agg (snapRow L s), .agg (encM m)] [] (encR (stepF s m)) := by
  by_cases he : (stepF s m).2 = 0
  · obtain ⟨kd, fr, to, v⟩ := m
    by_cases h3 : kd = 3
    · subst h3
      have hf : 0 ≤ fr ∧ fr < s.values.length := by
        by_cases hf : 0 ≤ fr ∧ fr < s.values.length
        · exact hf
        · simp [stepF, hf] at he
      obtain ⟨p, rfl⟩ : ∃ p : Nat, fr = p := ⟨fr.toNat, by omega⟩
      exact step2_begin hT hs hk hcn L hL p to v (by omega)
    · have h12 : kd = 1 ∨ kd = 2 := by
        by_cases h12 : kd = 1 ∨ kd = 2
        · exact h12
        · simp [stepF, h3, h12] at he
      have hf : (0 ≤ fr ∧ fr < s.values.length) ∧ (0 ≤ to ∧ to < s.values.length) ∧ fr ≠ to := by
        by_cases hf : (0 ≤ fr ∧ fr < s.values.length) ∧ (0 ≤ to ∧ to < s.values.length) ∧ fr ≠ to
        · exact hf
        · simp only [stepF] at he; rw [if_neg h3, if_pos h12, if_neg hf] at he; simp at he
      obtain ⟨p, rfl⟩ : ∃ p : Nat, fr = p := ⟨fr.toNat, by omega⟩
      obtain ⟨q, rfl⟩ : ∃ q : Nat, to = q := ⟨to.toNat, by omega⟩
      rcases h12 with rfl | rfl
      · refine step2_send hT hs hk L hL p q v (by omega) (by omega) ?_
        simp only [stepF] at he ⊢
        rw [if_neg (by decide), if_pos (by decide), if_pos hf, if_pos trivial] at he ⊢
        split
        · rename_i h; rw [if_pos h] at he; simp at he
        · simp
      · have hst : stepF s ⟨2, p, q, v⟩ = delF s (p * s.values.length + q) q := by
          simp only [stepF]
          rw [if_neg (by decide), if_pos (by decide), if_pos hf, if_neg (by decide)]
          simp
        rw [hst] at he
        exact step2_del hT hs hk hcn L hL p q v (by omega) (by omega) hst he
  · obtain ⟨h16, h36, h37, h38⟩ := hT
    have hr := refuse_ok h36 hs L hL m
    have h1 := stepF_err s m he
    refine EvF.run h16 ?_
    simp -implicitDefEqProofs -dsimp only [go_sem, reduceIte, reduceCtorEq, Nat.reduceAdd, Nat.reduceMul, Nat.reduceSub, Nat.reduceDiv, Nat.reduceLT, Nat.reduceLeDiff, Nat.reduceEqDiff, Nat.reduceBEq, Nat.reduceBNe, Int.reduceToNat, Int.reduceEq, Int.reduceLT, Int.reduceLE, Int.reduceNeg, c16, snapRow, hL, encM]
    refine CallF.intro hr ?_
    simp -implicitDefEqProofs -dsimp only [go_sem, reduceIte, reduceCtorEq, Nat.reduceAdd, Nat.reduceMul, Nat.reduceSub, Nat.reduceDiv, Nat.reduceLT, Nat.reduceLeDiff, Nat.reduceEqDiff, Nat.reduceBEq, Nat.reduceBNe, Int.reduceToNat, Int.reduceEq, Int.reduceLT, Int.reduceLE, Int.reduceNeg, c16, snapRow, hL, he]
    generalize hst : stepF s m = r at he h1
    obtain ⟨a, b⟩ := r
    simp only at h1
    subst h1
    rfl
end Pv

set_option maxRecDepth 100000
set_option linter.unusedVariables false
set_option linter.unusedSimpArgs false
namespace Pv
open Go
def addW (a x : Int) : Int := IntKind.i64.wrap (a + x)
def addP (a : Int) (x : Bool × Int) : Int := if x.1 = true then a else addW a x.2
def sumI (a : Int) (l : List Int) : Int := l.foldl addW a
def sumP (a : Int) (l : List (Bool × Int)) : Int := l.foldl addP a
def sumC (a : Int) (l : List (List (Bool × Int))) : Int := l.foldl sumP a
def sumR (a : Int) (l : List (List Int)) : Int := l.foldl sumI a
def totF (s : Snap) : Int × Int := (sumC (sumI 0 s.values) s.chans, sumR (sumI 0 s.saved) s.record)
theorem foldTk {α β : Type} {f : β → α → β} {l : List α} {i : Nat} {x : α} {a : β} (h : l[i]? = some x) : (l.take (i + 1)).foldl f a = f ((l.take i).foldl f a) x := by
  rw [List.take_add_one, h]; simp
theorem foldAll {α β : Type} {f : β → α → β} {l : List α} {i : Nat} {a : β} (h : ¬ i < l.length) : (l.take i).foldl f a = l.foldl f a := by
  rw [List.take_of_length_le (by omega)]
def encT (x : Int × Int) : Pv.T × List (List V) := (.tup [.one (.sc (.int .i64 x.1)), .one (.sc (.int .i64 x.2))], [])
set_option maxHeartbeats 16000000
theorem tot1_ok {T : Nat → Option Fn} (h17 : T 17 = some c17) {k : Nat} {s : Snap} (hs : Whole k s) (hk : k ≤ 1000000) (L : Nat → Lab) (hL : ∀ i, L i ≠ .own) :
    EvF T 17 [] [.agg (snapRow L s)] [] (encT (totF s)) := by
  obtain ⟨n1, n5, co, cu, sa, ch, op, re, chk, rek⟩ := hs
  obtain ⟨a1, a2, a3, a4, a5, a6, a7⟩ := s
  simp only at n1 n5 co cu sa ch op re chk rek
  have hq : a1.length * a1.length ≤ 25 := Nat.mul_le_mul n5 n5
  refine EvF.run h17 ?_
  simp -implicitDefEqProofs -dsimp only [go_sem, reduceIte, reduceCtorEq, Nat.reduceAdd, Nat.reduceMul, Nat.reduceSub, Nat.reduceDiv, Nat.reduceLT, Nat.reduceLeDiff, Nat.reduceEqDiff, Nat.reduceBEq, Nat.reduceBNe, Int.reduceToNat, Int.reduceEq, Int.reduceLT, Int.reduceLE, Int.reduceNeg, c17, snapRow, hL]
  refine LoopW.intro (fun n t => ∃ i : Nat, n + i = a1.length ∧ t = [(1, .one (.ptr 5001 0), 0), (2, .one (.sc (.int .i64 ((a1.take i).foldl addW 0))), 0), (3, .one (.sc (.int .i64 0)), 0), (17, .one (.sl (L 0) 1 (a1.map encI)), 0), (18, .one (.sc (.int .i64 a1.length)), 0), (19, .one (.sc (.int .i64 i)), 0),
    (5001, .agg (snapRow L ⟨a1, a2, a3, a4, a5, a6, a7⟩), 0)]) ?_ a1.length ?_
  case refine_2 => simp -implicitDefEqProofs -dsimp only [go_sem, reduceIte, reduceCtorEq, Nat.reduceAdd, Nat.reduceMul, Nat.reduceSub, Nat.reduceDiv, Nat.reduceLT, Nat.reduceLeDiff, Nat.reduceEqDiff, Nat.reduceBEq, Nat.reduceBNe, Int.reduceToNat, Int.reduceEq, Int.reduceLT, Int.reduceLE, Int.reduceNeg, c17]; exact ⟨0, by omega, rfl⟩
  rintro n t ⟨i, hi, rfl⟩
  simp -implicitDefEqProofs -dsimp only [go_sem, reduceIte, reduceCtorEq, Nat.reduceAdd, Nat.reduceMul, Nat.reduceSub, Nat.reduceDiv, Nat.reduceLT, Nat.reduceLeDiff, Nat.reduceEqDiff, Nat.reduceBEq, Nat.reduceBNe, Int.reduceToNat, Int.reduceEq, Int.reduceLT, Int.reduceLE, Int.reduceNeg, c17, snapRow, hL]
  refine condW_intro (fun h => ?_) (fun h => ?_)
  · have h : i < a1.length := by simpa using h
    have e1 : a1[i]? = some a1[i] := by simp [h]
    simp -implicitDefEqProofs -dsimp only [go_sem, reduceIte, reduceCtorEq, Nat.reduceAdd, Nat.reduceMul, Nat.reduceSub, Nat.reduceDiv, Nat.reduceLT, Nat.reduceLeDiff, Nat.reduceEqDiff, Nat.reduceBEq, Nat.reduceBNe, Int.reduceToNat, Int.reduceEq, Int.reduceLT, Int.reduceLE, Int.reduceNeg, c17, hL, h, e1, wS (show i < 4611686018427387904 by omega)]
    refine ⟨n - 1, by omega, i + 1, by omega, ?_⟩
    rw [foldTk e1]; rfl
  have h : ¬ i < a1.length := by simpa using h
  rw [foldAll h]
  simp -implicitDefEqProofs -dsimp only [go_sem, reduceIte, reduceCtorEq, Nat.reduceAdd, Nat.reduceMul, Nat.reduceSub, Nat.reduceDiv, Nat.reduceLT, Nat.reduceLeDiff, Nat.reduceEqDiff, Nat.reduceBEq, Nat.reduceBNe, Int.reduceToNat, Int.reduceEq, Int.reduceLT, Int.reduceLE, Int.reduceNeg, c17, hL]
  generalize hA : a1.foldl addW 0 = A
  refine LoopW.intro (fun n t => ∃ i : Nat, n + i = a3.length ∧ t = [(1, .one (.ptr 5001 0), 0), (2, .one (.sc (.int .i64 ((a3.take i).foldl sumP A))), 0), (3, .one (.sc (.int .i64 0)), 0), (28, .one (.sl (L 2) 1 (a3.map (encS (L 7) 2 encP))), 0), (29, .one (.sc (.int .i64 a3.length)), 0), (30, .one (.sc (.int .i64 i)), 0),
    (5001, .agg (snapRow L ⟨a1, a2, a3, a4, a5, a6, a7⟩), 0)]) ?_ a3.length ?_
  case refine_2 => simp -implicitDefEqProofs -dsimp only [go_sem, reduceIte, reduceCtorEq, Nat.reduceAdd, Nat.reduceMul, Nat.reduceSub, Nat.reduceDiv, Nat.reduceLT, Nat.reduceLeDiff, Nat.reduceEqDiff, Nat.reduceBEq, Nat.reduceBNe, Int.reduceToNat, Int.reduceEq, Int.reduceLT, Int.reduceLE, Int.reduceNeg, c17]; exact ⟨0, by omega, rfl⟩
  rintro n t ⟨i, hi, rfl⟩
  simp -implicitDefEqProofs -dsimp only [go_sem, reduceIte, reduceCtorEq, Nat.reduceAdd, Nat.reduceMul, Nat.reduceSub, Nat.reduceDiv, Nat.reduceLT, Nat.reduceLeDiff, Nat.reduceEqDiff, Nat.reduceBEq, Nat.reduceBNe, Int.reduceToNat, Int.reduceEq, Int.reduceLT, Int.reduceLE, Int.reduceNeg, c17, snapRow, hL]
  refine condW_intro (fun h => ?_) (fun h => ?_)
  · have h : i < a3.length := by simpa using h
    have e3 : a3[i]? = some a3[i] := by simp [h]
    have b3 := chk a3[i] (by simp)
    simp -implicitDefEqProofs -dsimp only [go_sem, reduceIte, reduceCtorEq, Nat.reduceAdd, Nat.reduceMul, Nat.reduceSub, Nat.reduceDiv, Nat.reduceLT, Nat.reduceLeDiff, Nat.reduceEqDiff, Nat.reduceBEq, Nat.reduceBNe, Int.reduceToNat, Int.reduceEq, Int.reduceLT, Int.reduceLE, Int.reduceNeg, c17, hL, h, e3]
    generalize hB : (a3.take i).foldl sumP A = B
    refine LoopW.intro (fun n2 t => ∃ j : Nat, n2 + j = a3[i].length ∧ t = [(1, .one (.ptr 5001 0), 0), (2, .one (.sc (.int .i64 ((a3[i].take j).foldl addP B))), 0), (3, .one (.sc (.int .i64 0)), 0), (7, .one (.sl (L 7) 2 (a3[i].map encP)), 0), (28, .one (.sl (L 2) 1 (a3.map (encS (L 7) 2 encP))), 0), (29, .one (.sc (.int .i64 a3.length)), 0), (30, .one (.sc (.int .i64 i)), 0),
      (34, .one (.sl (L 7) 2 (a3[i].map encP)), 0), (35, .one (.sc (.int .i64 a3[i].length)), 0), (36, .one (.sc (.int .i64 j)), 0), (5001, .agg (snapRow L ⟨a1, a2, a3, a4, a5, a6, a7⟩), 0)]) ?_ a3[i].length ?_
    case refine_2 => simp -implicitDefEqProofs -dsimp only [go_sem, reduceIte, reduceCtorEq, Nat.reduceAdd, Nat.reduceMul, Nat.reduceSub, Nat.reduceDiv, Nat.reduceLT, Nat.reduceLeDiff, Nat.reduceEqDiff, Nat.reduceBEq, Nat.reduceBNe, Int.reduceToNat, Int.reduceEq, Int.reduceLT, Int.reduceLE, Int.reduceNeg, c17]; exact ⟨0, by omega, rfl⟩
    rintro n2 t ⟨j, hj, rfl⟩
    simp -implicitDefEqProofs -dsimp only [go_sem, reduceIte, reduceCtorEq, Nat.reduceAdd, Nat.reduceMul, Nat.reduceSub, Nat.reduceDiv, Nat.reduceLT, Nat.reduceLeDiff, Nat.reduceEqDiff, Nat.reduceBEq, Nat.reduceBNe, Int.reduceToNat, Int.reduceEq, Int.reduceLT, Int.reduceLE, Int.reduceNeg, c17, snapRow, hL]
    refine condW_intro (fun h2 => ?_) (fun h2 => ?_)
    · have h2 : j < a3[i].length := by simpa using h2
      have e4 : a3[i][j]? = some a3[i][j] := by simp [h2]
      simp -implicitDefEqProofs -dsimp only [go_sem, reduceIte, reduceCtorEq, Nat.reduceAdd, Nat.reduceMul, Nat.reduceSub, Nat.reduceDiv, Nat.reduceLT, Nat.reduceLeDiff, Nat.reduceEqDiff, Nat.reduceBEq, Nat.reduceBNe, Int.reduceToNat, Int.reduceEq, Int.reduceLT, Int.reduceLE, Int.reduceNeg, c17, hL, h2, e4, wS (show j < 4611686018427387904 by omega)]
      by_cases hm : a3[i][j].1 = true
      · simp -implicitDefEqProofs -dsimp only [go_sem, reduceIte, reduceCtorEq, Nat.reduceAdd, Nat.reduceMul, Nat.reduceSub, Nat.reduceDiv, Nat.reduceLT, Nat.reduceLeDiff, Nat.reduceEqDiff, Nat.reduceBEq, Nat.reduceBNe, Int.reduceToNat, Int.reduceEq, Int.reduceLT, Int.reduceLE, Int.reduceNeg, c17, hm, wS (show j < 4611686018427387904 by omega)]
        refine ⟨n2 - 1, by omega, j + 1, by omega, ?_⟩
        rw [foldTk e4, addP, if_pos hm]; rfl
      · have hm' : a3[i][j].1 = false := by simpa using hm
        simp -implicitDefEqProofs -dsimp only [go_sem, reduceIte, reduceCtorEq, Nat.reduceAdd, Nat.reduceMul, Nat.reduceSub, Nat.reduceDiv, Nat.reduceLT, Nat.reduceLeDiff, Nat.reduceEqDiff, Nat.reduceBEq, Nat.reduceBNe, Int.reduceToNat, Int.reduceEq, Int.reduceLT, Int.reduceLE, Int.reduceNeg, c17, hm', wS (show j < 4611686018427387904 by omega)]
        refine ⟨n2 - 1, by omega, j + 1, by omega, ?_⟩
        rw [foldTk e4, addP, if_neg hm]; rfl
    · have h2 : ¬ j < a3[i].length := by simpa using h2
      rw [foldAll h2]
      simp -implicitDefEqProofs -dsimp only [go_sem, reduceIte, reduceCtorEq, Nat.reduceAdd, Nat.reduceMul, Nat.reduceSub, Nat.reduceDiv, Nat.reduceLT, Nat.reduceLeDiff, Nat.reduceEqDiff, Nat.reduceBEq, Nat.reduceBNe, Int.reduceToNat, Int.reduceEq, Int.reduceLT, Int.reduceLE, Int.reduceNeg, c17, hL, wS (show i < 4611686018427387904 by omega)]
      refine ⟨n - 1, by omega, i + 1, by omega, ?_⟩
      rw [foldTk e3, hB]; rfl
  have h : ¬ i < a3.length := by simpa using h
  rw [foldAll h]
  simp -implicitDefEqProofs -dsimp only [go_sem, reduceIte, reduceCtorEq, Nat.reduceAdd, Nat.reduceMul, Nat.reduceSub, Nat.reduceDiv, Nat.reduceLT, Nat.reduceLeDiff, Nat.reduceEqDiff, Nat.reduceBEq, Nat.reduceBNe, Int.reduceToNat, Int.reduceEq, Int.reduceLT, Int.reduceLE, Int.reduceNeg, c17, hL]
  generalize hC : a3.foldl sumP A = C
  refine LoopW.intro (fun n t => ∃ i : Nat, n + i = a5.length ∧ t = [(1, .one (.ptr 5001 0), 0), (2, .one (.sc (.int .i64 C)), 0), (3, .one (.sc (.int .i64 ((a5.take i).foldl addW 0))), 0), (50, .one (.sl (L 4) 1 (a5.map encI)), 0), (51, .one (.sc (.int .i64 a5.length)), 0), (52, .one (.sc (.int .i64 i)), 0),
    (5001, .agg (snapRow L ⟨a1, a2, a3, a4, a5, a6, a7⟩), 0)]) ?_ a5.length ?_
  case refine_2 => simp -implicitDefEqProofs -dsimp only [go_sem, reduceIte, reduceCtorEq, Nat.reduceAdd, Nat.reduceMul, Nat.reduceSub, Nat.reduceDiv, Nat.reduceLT, Nat.reduceLeDiff, Nat.reduceEqDiff, Nat.reduceBEq, Nat.reduceBNe, Int.reduceToNat, Int.reduceEq, Int.reduceLT, Int.reduceLE, Int.reduceNeg, c17]; exact ⟨0, by omega, rfl⟩
  rintro n t ⟨i, hi, rfl⟩
  simp -implicitDefEqProofs -dsimp only [go_sem, reduceIte, reduceCtorEq, Nat.reduceAdd, Nat.reduceMul, Nat.reduceSub, Nat.reduceDiv, Nat.reduceLT, Nat.reduceLeDiff, Nat.reduceEqDiff, Nat.reduceBEq, Nat.reduceBNe, Int.reduceToNat, Int.reduceEq, Int.reduceLT, Int.reduceLE, Int.reduceNeg, c17, snapRow, hL]
  refine condW_intro (fun h => ?_) (fun h => ?_)
  · have h : i < a5.length := by simpa using h
    have e1 : a5[i]? = some a5[i] := by simp [h]
    simp -implicitDefEqProofs -dsimp only [go_sem, reduceIte, reduceCtorEq, Nat.reduceAdd, Nat.reduceMul, Nat.reduceSub, Nat.reduceDiv, Nat.reduceLT, Nat.reduceLeDiff, Nat.reduceEqDiff, Nat.reduceBEq, Nat.reduceBNe, Int.reduceToNat, Int.reduceEq, Int.reduceLT, Int.reduceLE, Int.reduceNeg, c17, hL, h, e1, wS (show i < 4611686018427387904 by omega)]
    refine ⟨n - 1, by omega, i + 1, by omega, ?_⟩
    rw [foldTk e1]; rfl
  have h : ¬ i < a5.length := by simpa using h
  rw [foldAll h]
  simp -implicitDefEqProofs -dsimp only [go_sem, reduceIte, reduceCtorEq, Nat.reduceAdd, Nat.reduceMul, Nat.reduceSub, Nat.reduceDiv, Nat.reduceLT, Nat.reduceLeDiff, Nat.reduceEqDiff, Nat.reduceBEq, Nat.reduceBNe, Int.reduceToNat, Int.reduceEq, Int.reduceLT, Int.reduceLE, Int.reduceNeg, c17, hL]
  generalize hD : a5.foldl addW 0 = D
  refine LoopW.intro (fun n t => ∃ i : Nat, n + i = a7.length ∧ t = [(2, .one (.sc (.int .i64 C)), 0), (3, .one (.sc (.int .i64 ((a7.take i).foldl sumI D))), 0), (61, .one (.sl (L 6) 1 (a7.map (encS (L 8) 1 encI))), 0), (62, .one (.sc (.int .i64 a7.length)), 0), (63, .one (.sc (.int .i64 i)), 0),
    (5001, .agg (snapRow L ⟨a1, a2, a3, a4, a5, a6, a7⟩), 0)]) ?_ a7.length ?_
  case refine_2 => simp -implicitDefEqProofs -dsimp only [go_sem, reduceIte, reduceCtorEq, Nat.reduceAdd, Nat.reduceMul, Nat.reduceSub, Nat.reduceDiv, Nat.reduceLT, Nat.reduceLeDiff, Nat.reduceEqDiff, Nat.reduceBEq, Nat.reduceBNe, Int.reduceToNat, Int.reduceEq, Int.reduceLT, Int.reduceLE, Int.reduceNeg, c17]; exact ⟨0, by omega, rfl⟩
  rintro n t ⟨i, hi, rfl⟩
  simp -implicitDefEqProofs -dsimp only [go_sem, reduceIte, reduceCtorEq, Nat.reduceAdd, Nat.reduceMul, Nat.reduceSub, Nat.reduceDiv, Nat.reduceLT, Nat.reduceLeDiff, Nat.reduceEqDiff, Nat.reduceBEq, Nat.reduceBNe, Int.reduceToNat, Int.reduceEq, Int.reduceLT, Int.reduceLE, Int.reduceNeg, c17, snapRow, hL]
  refine condW_intro (fun h => ?_) (fun h => ?_)
  · have h : i < a7.length := by simpa using h
    have e3 : a7[i]? = some a7[i] := by simp [h]
    have b3 := rek a7[i] (by simp)
    simp -implicitDefEqProofs -dsimp only [go_sem, reduceIte, reduceCtorEq, Nat.reduceAdd, Nat.reduceMul, Nat.reduceSub, Nat.reduceDiv, Nat.reduceLT, Nat.reduceLeDiff, Nat.reduceEqDiff, Nat.reduceBEq, Nat.reduceBNe, Int.reduceToNat, Int.reduceEq, Int.reduceLT, Int.reduceLE, Int.reduceNeg, c17, hL, h, e3]
    generalize hB : (a7.take i).foldl sumI D = B
    refine LoopW.intro (fun n2 t => ∃ j : Nat, n2 + j = a7[i].length ∧ t = [(2, .one (.sc (.int .i64 C)), 0), (3, .one (.sc (.int .i64 ((a7[i].take j).foldl addW B))), 0), (13, .one (.sl (L 8) 1 (a7[i].map encI)), 0), (61, .one (.sl (L 6) 1 (a7.map (encS (L 8) 1 encI))), 0), (62, .one (.sc (.int .i64 a7.length)), 0), (63, .one (.sc (.int .i64 i)), 0),
      (67, .one (.sl (L 8) 1 (a7[i].map encI)), 0), (68, .one (.sc (.int .i64 a7[i].length)), 0), (69, .one (.sc (.int .i64 j)), 0), (5001, .agg (snapRow L ⟨a1, a2, a3, a4, a5, a6, a7⟩), 0)]) ?_ a7[i].length ?_
    case refine_2 => simp -implicitDefEqProofs -dsimp only [go_sem, reduceIte, reduceCtorEq, Nat.reduceAdd, Nat.reduceMul, Nat.reduceSub, Nat.reduceDiv, Nat.reduceLT, Nat.reduceLeDiff, Nat.reduceEqDiff, Nat.reduceBEq, Nat.reduceBNe, Int.reduceToNat, Int.reduceEq, Int.reduceLT, Int.reduceLE, Int.reduceNeg, c17]; exact ⟨0, by omega, rfl⟩
    rintro n2 t ⟨j, hj, rfl⟩
    simp -implicitDefEqProofs -dsimp only [go_sem, reduceIte, reduceCtorEq, Nat.reduceAdd, Nat.reduceMul, Nat.reduceSub, Nat.reduceDiv, Nat.reduceLT, Nat.reduceLeDiff, Nat.reduceEqDiff, Nat.reduceBEq, Nat.reduceBNe, Int.reduceToNat, Int.reduceEq, Int.reduceLT, Int.reduceLE, Int.reduceNeg, c17, snapRow, hL]
    refine condW_intro (fun h2 => ?_) (fun h2 => ?_)
    · have h2 : j < a7[i].length := by simpa using h2
      have e4 : a7[i][j]? = some a7[i][j] := by simp [h2]
      simp -implicitDefEqProofs -dsimp only [go_sem, reduceIte, reduceCtorEq, Nat.reduceAdd, Nat.reduceMul, Nat.reduceSub, Nat.reduceDiv, Nat.reduceLT, Nat.reduceLeDiff, Nat.reduceEqDiff, Nat.reduceBEq, Nat.reduceBNe, Int.reduceToNat, Int.reduceEq, Int.reduceLT, Int.reduceLE, Int.reduceNeg, c17, hL, h2, e4, wS (show j < 4611686018427387904 by omega)]
      refine ⟨n2 - 1, by omega, j + 1, by omega, ?_⟩
      rw [foldTk e4]; rfl
    · have h2 : ¬ j < a7[i].length := by simpa using h2
      rw [foldAll h2]
      simp -implicitDefEqProofs -dsimp only [go_sem, reduceIte, reduceCtorEq, Nat.reduceAdd, Nat.reduceMul, Nat.reduceSub, Nat.reduceDiv, Nat.reduceLT, Nat.reduceLeDiff, Nat.reduceEqDiff, Nat.reduceBEq, Nat.reduceBNe, Int.reduceToNat, Int.reduceEq, Int.reduceLT, Int.reduceLE, Int.reduceNeg, c17, hL, wS (show i < 4611686018427387904 by omega)]
      refine ⟨n - 1, by omega, i + 1, by omega, ?_⟩
      rw [foldTk e3, hB]; rfl
  have h : ¬ i < a7.length := by simpa using h
  rw [foldAll h]
  simp -implicitDefEqProofs -dsimp only [go_sem, reduceIte, reduceCtorEq, Nat.reduceAdd, Nat.reduceMul, Nat.reduceSub, Nat.reduceDiv, Nat.reduceLT, Nat.reduceLeDiff, Nat.reduceEqDiff, Nat.reduceBEq, Nat.reduceBNe, Int.reduceToNat, Int.reduceEq, Int.reduceLT, Int.reduceLE, Int.reduceNeg, c17, hL]
  have : totF ⟨a1, a2, a3, a4, a5, a6, a7⟩ = (C, a7.foldl sumI D) := by
    rw [← hC, ← hD, ← hA]; rfl
  rw [this]; rfl
end Pv

set_option maxRecDepth 100000
set_option linter.unusedVariables false
set_option linter.unusedSimpArgs false
namespace Pv
open Go
set_option maxHeartbeats 16000000
theorem tot2_ok {T : Nat → Option Fn} (h18 : T 18 = some c18) {k : Nat} {s : Snap} (hs : Whole k s) (hk : k ≤ 1000000) (L : Nat → Lab) (hL : ∀ i, L i ≠ .own) :
    EvF T 18 [] [.agg (snapRow L s)] [] (encT (totF s)) := by
  obtain ⟨n1, n5, co, cu, sa, ch, op, re, chk, rek⟩ := hs
  obtain ⟨a1, a2, a3, a4, a5, a6, a7⟩ := s
  simp only at n1 n5 co cu sa ch op re chk rek
  have hq : a1.length * a1.length ≤ 25 := Nat.mul_le_mul n5 n5
  refine EvF.run h18 ?_
  simp -implicitDefEqProofs -dsimp only [go_sem, reduceIte, reduceCtorEq, Nat.reduceAdd, Nat.reduceMul, Nat.reduceSub, Nat.reduceDiv, Nat.reduceLT, Nat.reduceLeDiff, Nat.reduceEqDiff, Nat.reduceBEq, Nat.reduceBNe, Int.reduceToNat, Int.reduceEq, Int.reduceLT, Int.reduceLE, Int.reduceNeg, c18, snapRow, hL]
  refine LoopW.intro (fun n t => ∃ i : Nat, n + i = a1.length ∧ t = [(1, .one (.ptr 5001 0), 0), (4, .one (.sc (.int .i64 ((a1.take i).foldl addW 0))), 0), (5, .one (.sc (.int .i64 ((a5.take i).foldl addW 0))), 0), (6, .one (.sc (.int .i64 i)), 0), (5001, .agg (snapRow L ⟨a1, a2, a3, a4, a5, a6, a7⟩), 0)]) ?_ a1.length ?_
  case refine_2 => simp -implicitDefEqProofs -dsimp only [go_sem, reduceIte, reduceCtorEq, Nat.reduceAdd, Nat.reduceMul, Nat.reduceSub, Nat.reduceDiv, Nat.reduceLT, Nat.reduceLeDiff, Nat.reduceEqDiff, Nat.reduceBEq, Nat.reduceBNe, Int.reduceToNat, Int.reduceEq, Int.reduceLT, Int.reduceLE, Int.reduceNeg, c18]; exact ⟨0, by omega, rfl⟩
  rintro n t ⟨i, hi, rfl⟩
  simp -implicitDefEqProofs -dsimp only [go_sem, reduceIte, reduceCtorEq, Nat.reduceAdd, Nat.reduceMul, Nat.reduceSub, Nat.reduceDiv, Nat.reduceLT, Nat.reduceLeDiff, Nat.reduceEqDiff, Nat.reduceBEq, Nat.reduceBNe, Int.reduceToNat, Int.reduceEq, Int.reduceLT, Int.reduceLE, Int.reduceNeg, c18, snapRow, hL]
  refine condW_intro (fun h => ?_) (fun h => ?_)
  · have h : i < a1.length := by simpa using h
    have h5 : i < a5.length := by omega
    have e1 : a1[i]? = some a1[i] := by simp [h]
    have e5 : a5[i]? = some a5[i] := by simp [h5]
    simp -implicitDefEqProofs -dsimp only [go_sem, reduceIte, reduceCtorEq, Nat.reduceAdd, Nat.reduceMul, Nat.reduceSub, Nat.reduceDiv, Nat.reduceLT, Nat.reduceLeDiff, Nat.reduceEqDiff, Nat.reduceBEq, Nat.reduceBNe, Int.reduceToNat, Int.reduceEq, Int.reduceLT, Int.reduceLE, Int.reduceNeg, c18, hL, h, e1, h5, e5, wS (show i < 4611686018427387904 by omega)]
    refine ⟨n - 1, by omega, i + 1, by omega, ?_⟩
    rw [foldTk e1, foldTk e5]; rfl
  have h : ¬ i < a1.length := by simpa using h
  rw [foldAll h, foldAll (show ¬ i < a5.length by omega)]
  simp -implicitDefEqProofs -dsimp only [go_sem, reduceIte, reduceCtorEq, Nat.reduceAdd, Nat.reduceMul, Nat.reduceSub, Nat.reduceDiv, Nat.reduceLT, Nat.reduceLeDiff, Nat.reduceEqDiff, Nat.reduceBEq, Nat.reduceBNe, Int.reduceToNat, Int.reduceEq, Int.reduceLT, Int.reduceLE, Int.reduceNeg, c18, hL]
  generalize hA : a1.foldl addW 0 = A
  generalize hD : a5.foldl addW 0 = D
  refine LoopW.intro (fun n t => ∃ i : Nat, n + i = a3.length ∧ t = [(1, .one (.ptr 5001 0), 0), (4, .one (.sc (.int .i64 ((a3.take i).foldl sumP A))), 0), (5, .one (.sc (.int .i64 D)), 0), (7, .one (.sc (.int .i64 i)), 0), (5001, .agg (snapRow L ⟨a1, a2, a3, a4, a5, a6, a7⟩), 0)]) ?_ a3.length ?_
  case refine_2 => simp -implicitDefEqProofs -dsimp only [go_sem, reduceIte, reduceCtorEq, Nat.reduceAdd, Nat.reduceMul, Nat.reduceSub, Nat.reduceDiv, Nat.reduceLT, Nat.reduceLeDiff, Nat.reduceEqDiff, Nat.reduceBEq, Nat.reduceBNe, Int.reduceToNat, Int.reduceEq, Int.reduceLT, Int.reduceLE, Int.reduceNeg, c18]; exact ⟨0, by omega, rfl⟩
  rintro n t ⟨i, hi, rfl⟩
  simp -implicitDefEqProofs -dsimp only [go_sem, reduceIte, reduceCtorEq, Nat.reduceAdd, Nat.reduceMul, Nat.reduceSub, Nat.reduceDiv, Nat.reduceLT, Nat.reduceLeDiff, Nat.reduceEqDiff, Nat.reduceBEq, Nat.reduceBNe, Int.reduceToNat, Int.reduceEq, Int.reduceLT, Int.reduceLE, Int.reduceNeg, c18, snapRow, hL]
  refine condW_intro (fun h => ?_) (fun h => ?_)
  · have h : i < a3.length := by simpa using h
    have e3 : a3[i]? = some a3[i] := by simp [h]
    have b3 := chk a3[i] (by simp)
    simp -implicitDefEqProofs -dsimp only [go_sem, reduceIte, reduceCtorEq, Nat.reduceAdd, Nat.reduceMul, Nat.reduceSub, Nat.reduceDiv, Nat.reduceLT, Nat.reduceLeDiff, Nat.reduceEqDiff, Nat.reduceBEq, Nat.reduceBNe, Int.reduceToNat, Int.reduceEq, Int.reduceLT, Int.reduceLE, Int.reduceNeg, c18, hL, h, e3]
    generalize hB : (a3.take i).foldl sumP A = B
    refine LoopW.intro (fun n2 t => ∃ j : Nat, n2 + j = a3[i].length ∧ t = [(1, .one (.ptr 5001 0), 0), (4, .one (.sc (.int .i64 ((a3[i].take j).foldl addP B))), 0), (5, .one (.sc (.int .i64 D)), 0), (7, .one (.sc (.int .i64 i)), 0), (8, .one (.sc (.int .i64 j)), 0), (5001, .agg (snapRow L ⟨a1, a2, a3, a4, a5, a6, a7⟩), 0)]) ?_ a3[i].length ?_
    case refine_2 => simp -implicitDefEqProofs -dsimp only [go_sem, reduceIte, reduceCtorEq, Nat.reduceAdd, Nat.reduceMul, Nat.reduceSub, Nat.reduceDiv, Nat.reduceLT, Nat.reduceLeDiff, Nat.reduceEqDiff, Nat.reduceBEq, Nat.reduceBNe, Int.reduceToNat, Int.reduceEq, Int.reduceLT, Int.reduceLE, Int.reduceNeg, c18]; exact ⟨0, by omega, rfl⟩
    rintro n2 t ⟨j, hj, rfl⟩
    simp -implicitDefEqProofs -dsimp only [go_sem, reduceIte, reduceCtorEq, Nat.reduceAdd, Nat.reduceMul, Nat.reduceSub, Nat.reduceDiv, Nat.reduceLT, Nat.reduceLeDiff, Nat.reduceEqDiff, Nat.reduceBEq, Nat.reduceBNe, Int.reduceToNat, Int.reduceEq, Int.reduceLT, Int.reduceLE, Int.reduceNeg, c18, snapRow, hL, h, e3]
    refine condW_intro (fun h2 => ?_) (fun h2 => ?_)
    · have h2 : j < a3[i].length := by simpa using h2
      have e4 : a3[i][j]? = some a3[i][j] := by simp [h2]
      simp -implicitDefEqProofs -dsimp only [go_sem, reduceIte, reduceCtorEq, Nat.reduceAdd, Nat.reduceMul, Nat.reduceSub, Nat.reduceDiv, Nat.reduceLT, Nat.reduceLeDiff, Nat.reduceEqDiff, Nat.reduceBEq, Nat.reduceBNe, Int.reduceToNat, Int.reduceEq, Int.reduceLT, Int.reduceLE, Int.reduceNeg, c18, hL, h, e3, h2, e4, wS (show j < 4611686018427387904 by omega)]
      by_cases hm : a3[i][j].1 = true
      · simp -implicitDefEqProofs -dsimp only [go_sem, reduceIte, reduceCtorEq, Nat.reduceAdd, Nat.reduceMul, Nat.reduceSub, Nat.reduceDiv, Nat.reduceLT, Nat.reduceLeDiff, Nat.reduceEqDiff, Nat.reduceBEq, Nat.reduceBNe, Int.reduceToNat, Int.reduceEq, Int.reduceLT, Int.reduceLE, Int.reduceNeg, c18, hm, wS (show j < 4611686018427387904 by omega)]
        refine ⟨n2 - 1, by omega, j + 1, by omega, ?_⟩
        rw [foldTk e4, addP, if_pos hm]; rfl
      · have hm' : a3[i][j].1 = false := by simpa using hm
        simp -implicitDefEqProofs -dsimp only [go_sem, reduceIte, reduceCtorEq, Nat.reduceAdd, Nat.reduceMul, Nat.reduceSub, Nat.reduceDiv, Nat.reduceLT, Nat.reduceLeDiff, Nat.reduceEqDiff, Nat.reduceBEq, Nat.reduceBNe, Int.reduceToNat, Int.reduceEq, Int.reduceLT, Int.reduceLE, Int.reduceNeg, c18, hL, h, e3, h2, e4, hm', wS (show j < 4611686018427387904 by omega)]
        refine ⟨n2 - 1, by omega, j + 1, by omega, ?_⟩
        rw [foldTk e4, addP, if_neg hm]; rfl
    · have h2 : ¬ j < a3[i].length := by simpa using h2
      rw [foldAll h2]
      simp -implicitDefEqProofs -dsimp only [go_sem, reduceIte, reduceCtorEq, Nat.reduceAdd, Nat.reduceMul, Nat.reduceSub, Nat.reduceDiv, Nat.reduceLT, Nat.reduceLeDiff, Nat.reduceEqDiff, Nat.reduceBEq, Nat.reduceBNe, Int.reduceToNat, Int.reduceEq, Int.reduceLT, Int.reduceLE, Int.reduceNeg, c18, hL, wS (show i < 4611686018427387904 by omega)]
      refine ⟨n - 1, by omega, i + 1, by omega, ?_⟩
      rw [foldTk e3, hB]; rfl
  have h : ¬ i < a3.length := by simpa using h
  rw [foldAll h]
  simp -implicitDefEqProofs -dsimp only [go_sem, reduceIte, reduceCtorEq, Nat.reduceAdd, Nat.reduceMul, Nat.reduceSub, Nat.reduceDiv, Nat.reduceLT, Nat.reduceLeDiff, Nat.reduceEqDiff, Nat.reduceBEq, Nat.reduceBNe, Int.reduceToNat, Int.reduceEq, Int.reduceLT, Int.reduceLE, Int.reduceNeg, c18, hL]
  generalize hC : a3.foldl sumP A = C
  refine LoopW.intro (fun n t => ∃ i : Nat, n + i = a7.length ∧ t = [(1, .one (.ptr 5001 0), 0), (4, .one (.sc (.int .i64 C)), 0), (5, .one (.sc (.int .i64 ((a7.take i).foldl sumI D))), 0), (9, .one (.sc (.int .i64 i)), 0), (5001, .agg (snapRow L ⟨a1, a2, a3, a4, a5, a6, a7⟩), 0)]) ?_ a7.length ?_
  case refine_2 => simp -implicitDefEqProofs -dsimp only [go_sem, reduceIte, reduceCtorEq, Nat.reduceAdd, Nat.reduceMul, Nat.reduceSub, Nat.reduceDiv, Nat.reduceLT, Nat.reduceLeDiff, Nat.reduceEqDiff, Nat.reduceBEq, Nat.reduceBNe, Int.reduceToNat, Int.reduceEq, Int.reduceLT, Int.reduceLE, Int.reduceNeg, c18]; exact ⟨0, by omega, rfl⟩
  rintro n t ⟨i, hi, rfl⟩
  simp -implicitDefEqProofs -dsimp only [go_sem, reduceIte, reduceCtorEq, Nat.reduceAdd, Nat.reduceMul, Nat.reduceSub, Nat.reduceDiv, Nat.reduceLT, Nat.reduceLeDiff, Nat.reduceEqDiff, Nat.reduceBEq, Nat.reduceBNe, Int.reduceToNat, Int.reduceEq, Int.reduceLT, Int.reduceLE, Int.reduceNeg, c18, snapRow, hL]
  refine condW_intro (fun h => ?_) (fun h => ?_)
  · have h : i < a7.length := by simpa using h
    have e3 : a7[i]? = some a7[i] := by simp [h]
    have b3 := rek a7[i] (by simp)
    simp -implicitDefEqProofs -dsimp only [go_sem, reduceIte, reduceCtorEq, Nat.reduceAdd, Nat.reduceMul, Nat.reduceSub, Nat.reduceDiv, Nat.reduceLT, Nat.reduceLeDiff, Nat.reduceEqDiff, Nat.reduceBEq, Nat.reduceBNe, Int.reduceToNat, Int.reduceEq, Int.reduceLT, Int.reduceLE, Int.reduceNeg, c18, hL, h, e3]
    generalize hB : (a7.take i).foldl sumI D = B
    refine LoopW.intro (fun n2 t => ∃ j : Nat, n2 + j = a7[i].length ∧ t = [(1, .one (.ptr 5001 0), 0), (4, .one (.sc (.int .i64 C)), 0), (5, .one (.sc (.int .i64 ((a7[i].take j).foldl addW B))), 0), (9, .one (.sc (.int .i64 i)), 0), (10, .one (.sc (.int .i64 j)), 0), (5001, .agg (snapRow L ⟨a1, a2, a3, a4, a5, a6, a7⟩), 0)]) ?_ a7[i].length ?_
    case refine_2 => simp -implicitDefEqProofs -dsimp only [go_sem, reduceIte, reduceCtorEq, Nat.reduceAdd, Nat.reduceMul, Nat.reduceSub, Nat.reduceDiv, Nat.reduceLT, Nat.reduceLeDiff, Nat.reduceEqDiff, Nat.reduceBEq, Nat.reduceBNe, Int.reduceToNat, Int.reduceEq, Int.reduceLT, Int.reduceLE, Int.reduceNeg, c18]; exact ⟨0, by omega, rfl⟩
    rintro n2 t ⟨j, hj, rfl⟩
    simp -implicitDefEqProofs -dsimp only [go_sem, reduceIte, reduceCtorEq, Nat.reduceAdd, Nat.reduceMul, Nat.reduceSub, Nat.reduceDiv, Nat.reduceLT, Nat.reduceLeDiff, Nat.reduceEqDiff, Nat.reduceBEq, Nat.reduceBNe, Int.reduceToNat, Int.reduceEq, Int.reduceLT, Int.reduceLE, Int.reduceNeg, c18, snapRow, hL, h, e3]
    refine condW_intro (fun h2 => ?_) (fun h2 => ?_)
    · have h2 : j < a7[i].length := by simpa using h2
      have e4 : a7[i][j]? = some a7[i][j] := by simp [h2]
      simp -implicitDefEqProofs -dsimp only [go_sem, reduceIte, reduceCtorEq, Nat.reduceAdd, Nat.reduceMul, Nat.reduceSub, Nat.reduceDiv, Nat.reduceLT, Nat.reduceLeDiff, Nat.reduceEqDiff, Nat.reduceBEq, Nat.reduceBNe, Int.reduceToNat, Int.reduceEq, Int.reduceLT, Int.reduceLE, Int.reduceNeg, c18, hL, h, e3, h2, e4, wS (show j < 4611686018427387904 by omega)]
      refine ⟨n2 - 1, by omega, j + 1, by omega, ?_⟩
      rw [foldTk e4]; rfl
    · have h2 : ¬ j < a7[i].length := by simpa using h2
      rw [foldAll h2]
      simp -implicitDefEqProofs -dsimp only [go_sem, reduceIte, reduceCtorEq, Nat.reduceAdd, Nat.reduceMul, Nat.reduceSub, Nat.reduceDiv, Nat.reduceLT, Nat.reduceLeDiff, Nat.reduceEqDiff, Nat.reduceBEq, Nat.reduceBNe, Int.reduceToNat, Int.reduceEq, Int.reduceLT, Int.reduceLE, Int.reduceNeg, c18, hL, wS (show i < 4611686018427387904 by omega)]
      refine ⟨n - 1, by omega, i + 1, by omega, ?_⟩
      rw [foldTk e3, hB]; rfl
  have h : ¬ i < a7.length := by simpa using h
  rw [foldAll h]
  simp -implicitDefEqProofs -dsimp only [go_sem, reduceIte, reduceCtorEq, Nat.reduceAdd, Nat.reduceMul, Nat.reduceSub, Nat.reduceDiv, Nat.reduceLT, Nat.reduceLeDiff, Nat.reduceEqDiff, Nat.reduceBEq, Nat.reduceBNe, Int.reduceToNat, Int.reduceEq, Int.reduceLT, Int.reduceLE, Int.reduceNeg, c18, hL]
  have : totF ⟨a1, a2, a3, a4, a5, a6, a7⟩ = (C, a7.foldl sumI D) := by
    rw [← hC, ← hD, ← hA]; rfl
  rw [this]; rfl
def doneF (s : Snap) : Bool := !s.cut.contains (-1) && !s.opn.contains true
theorem notIn {α : Type} [BEq α] [LawfulBEq α] {l : List α} {x : α} (h : ∀ j : Nat, l[j]? ≠ some x) : l.contains x = false := by
  cases hc : l.contains x with
  | false => rfl
  | true =>
    rw [List.contains_iff_mem] at hc
    obtain ⟨j, hj⟩ := List.getElem?_of_mem hc
    exact absurd hj (h j)
theorem isIn {α : Type} [BEq α] [LawfulBEq α] {l : List α} {x : α} {j : Nat} (h : l[j]? = some x) : l.contains x = true := by
  rw [List.contains_iff_mem]; exact List.mem_of_getElem? h
theorem done1_ok {T : Nat → Option Fn} (h19 : T 19 = some c19) {k : Nat} {s : Snap} (hs : Whole k s) (L : Nat → Lab) (hL : ∀ i, L i ≠ .own) :
    EvF T 19 [] [.agg (snapRow L s)] [] (.one (.sc (.bool (doneF s))), []) := by
  obtain ⟨n1, n5, co, cu, sa, ch, op, re, chk, rek⟩ := hs
  obtain ⟨a1, a2, a3, a4, a5, a6, a7⟩ := s
  simp only at n1 n5 co cu sa ch op re chk rek
  have hq : a1.length * a1.length ≤ 25 := Nat.mul_le_mul n5 n5
  refine EvF.run h19 ?_
  simp -implicitDefEqProofs -dsimp only [go_sem, reduceIte, reduceCtorEq, Nat.reduceAdd, Nat.reduceMul, Nat.reduceSub, Nat.reduceDiv, Nat.reduceLT, Nat.reduceLeDiff, Nat.reduceEqDiff, Nat.reduceBEq, Nat.reduceBNe, Int.reduceToNat, Int.reduceEq, Int.reduceLT, Int.reduceLE, Int.reduceNeg, c19, snapRow, hL]
  refine LoopW.intro (fun n t => ∃ i : Nat, n + i = a4.length ∧ (∀ j, j < i → a4[j]? ≠ some (-1)) ∧ t = [(1, .one (.ptr 5001 0), 0), (8, .one (.sl (L 3) 1 (a4.map encI)), 0), (9, .one (.sc (.int .i64 a4.length)), 0), (10, .one (.sc (.int .i64 i)), 0), (5001, .agg (snapRow L ⟨a1, a2, a3, a4, a5, a6, a7⟩), 0)]) ?_ a4.length ?_
  case refine_2 => simp -implicitDefEqProofs -dsimp only [go_sem, reduceIte, reduceCtorEq, Nat.reduceAdd, Nat.reduceMul, Nat.reduceSub, Nat.reduceDiv, Nat.reduceLT, Nat.reduceLeDiff, Nat.reduceEqDiff, Nat.reduceBEq, Nat.reduceBNe, Int.reduceToNat, Int.reduceEq, Int.reduceLT, Int.reduceLE, Int.reduceNeg, c19]; exact ⟨0, by omega, by omega, rfl⟩
  rintro n t ⟨i, hi, hn, rfl⟩
  simp -implicitDefEqProofs -dsimp only [go_sem, reduceIte, reduceCtorEq, Nat.reduceAdd, Nat.reduceMul, Nat.reduceSub, Nat.reduceDiv, Nat.reduceLT, Nat.reduceLeDiff, Nat.reduceEqDiff, Nat.reduceBEq, Nat.reduceBNe, Int.reduceToNat, Int.reduceEq, Int.reduceLT, Int.reduceLE, Int.reduceNeg, c19, snapRow, hL]
  refine condW_intro (fun h => ?_) (fun h => ?_)
  · have h : i < a4.length := by simpa using h
    have e1 : a4[i]? = some a4[i] := by simp [h]
    simp -implicitDefEqProofs -dsimp only [go_sem, reduceIte, reduceCtorEq, Nat.reduceAdd, Nat.reduceMul, Nat.reduceSub, Nat.reduceDiv, Nat.reduceLT, Nat.reduceLeDiff, Nat.reduceEqDiff, Nat.reduceBEq, Nat.reduceBNe, Int.reduceToNat, Int.reduceEq, Int.reduceLT, Int.reduceLE, Int.reduceNeg, c19, hL, h, e1]
    by_cases hm : a4[i] = -1
    · simp -implicitDefEqProofs -dsimp only [go_sem, reduceIte, reduceCtorEq, Nat.reduceAdd, Nat.reduceMul, Nat.reduceSub, Nat.reduceDiv, Nat.reduceLT, Nat.reduceLeDiff, Nat.reduceEqDiff, Nat.reduceBEq, Nat.reduceBNe, Int.reduceToNat, Int.reduceEq, Int.reduceLT, Int.reduceLE, Int.reduceNeg, c19, hm]
      rw [hm] at e1
      simp only [doneF, isIn e1, Bool.not_true, Bool.false_and, Bool.and_false]
    · simp -implicitDefEqProofs -dsimp only [go_sem, reduceIte, reduceCtorEq, Nat.reduceAdd, Nat.reduceMul, Nat.reduceSub, Nat.reduceDiv, Nat.reduceLT, Nat.reduceLeDiff, Nat.reduceEqDiff, Nat.reduceBEq, Nat.reduceBNe, Int.reduceToNat, Int.reduceEq, Int.reduceLT, Int.reduceLE, Int.reduceNeg, c19, hm, wS (show i < 4611686018427387904 by omega)]
      refine ⟨n - 1, by omega, i + 1, by omega, fun j hj => ?_, rfl⟩
      by_cases e : j = i
      · subst e; rw [e1]; simpa using hm
      · exact hn j (by omega)
  have h : ¬ i < a4.length := by simpa using h
  have hc : a4.contains (-1) = false := notIn fun j => by
    by_cases hj : j < i
    · exact hn j hj
    · rw [List.getElem?_eq_none (by omega)]; simp
  simp -implicitDefEqProofs -dsimp only [go_sem, reduceIte, reduceCtorEq, Nat.reduceAdd, Nat.reduceMul, Nat.reduceSub, Nat.reduceDiv, Nat.reduceLT, Nat.reduceLeDiff, Nat.reduceEqDiff, Nat.reduceBEq, Nat.reduceBNe, Int.reduceToNat, Int.reduceEq, Int.reduceLT, Int.reduceLE, Int.reduceNeg, c19, hL]
  refine LoopW.intro (fun n t => ∃ i : Nat, n + i = a6.length ∧ (∀ j, j < i → a6[j]? ≠ some true) ∧ t = [(18, .one (.sl (L 5) 1 (a6.map encB)), 0), (19, .one (.sc (.int .i64 a6.length)), 0), (20, .one (.sc (.int .i64 i)), 0), (5001, .agg (snapRow L ⟨a1, a2, a3, a4, a5, a6, a7⟩), 0)]) ?_ a6.length ?_
  case refine_2 => simp -implicitDefEqProofs -dsimp only [go_sem, reduceIte, reduceCtorEq, Nat.reduceAdd, Nat.reduceMul, Nat.reduceSub, Nat.reduceDiv, Nat.reduceLT, Nat.reduceLeDiff, Nat.reduceEqDiff, Nat.reduceBEq, Nat.reduceBNe, Int.reduceToNat, Int.reduceEq, Int.reduceLT, Int.reduceLE, Int.reduceNeg, c19]; exact ⟨0, by omega, by omega, rfl⟩
  rintro n t ⟨i, hi, hn, rfl⟩
  simp -implicitDefEqProofs -dsimp only [go_sem, reduceIte, reduceCtorEq, Nat.reduceAdd, Nat.reduceMul, Nat.reduceSub, Nat.reduceDiv, Nat.reduceLT, Nat.reduceLeDiff, Nat.reduceEqDiff, Nat.reduceBEq, Nat.reduceBNe, Int.reduceToNat, Int.reduceEq, Int.reduceLT, Int.reduceLE, Int.reduceNeg, c19, snapRow, hL]
  refine condW_intro (fun h => ?_) (fun h => ?_)
  · have h : i < a6.length := by simpa using h
    have e1 : a6[i]? = some a6[i] := by simp [h]
    simp -implicitDefEqProofs -dsimp only [go_sem, reduceIte, reduceCtorEq, Nat.reduceAdd, Nat.reduceMul, Nat.reduceSub, Nat.reduceDiv, Nat.reduceLT, Nat.reduceLeDiff, Nat.reduceEqDiff, Nat.reduceBEq, Nat.reduceBNe, Int.reduceToNat, Int.reduceEq, Int.reduceLT, Int.reduceLE, Int.reduceNeg, c19, hL, h, e1]
    by_cases hm : a6[i] = true
    · simp -implicitDefEqProofs -dsimp only [go_sem, reduceIte, reduceCtorEq, Nat.reduceAdd, Nat.reduceMul, Nat.reduceSub, Nat.reduceDiv, Nat.reduceLT, Nat.reduceLeDiff, Nat.reduceEqDiff, Nat.reduceBEq, Nat.reduceBNe, Int.reduceToNat, Int.reduceEq, Int.reduceLT, Int.reduceLE, Int.reduceNeg, c19, hm]
      rw [hm] at e1
      simp only [doneF, isIn e1, Bool.not_true, Bool.false_and, Bool.and_false]
    · have hm' : a6[i] = false := by simpa using hm
      simp -implicitDefEqProofs -dsimp only [go_sem, reduceIte, reduceCtorEq, Nat.reduceAdd, Nat.reduceMul, Nat.reduceSub, Nat.reduceDiv, Nat.reduceLT, Nat.reduceLeDiff, Nat.reduceEqDiff, Nat.reduceBEq, Nat.reduceBNe, Int.reduceToNat, Int.reduceEq, Int.reduceLT, Int.reduceLE, Int.reduceNeg, c19, hm', wS (show i < 4611686018427387904 by omega)]
      refine ⟨n - 1, by omega, i + 1, by omega, fun j hj => ?_, rfl⟩
      by_cases e : j = i
      · subst e; rw [e1]; simp [hm']
      · exact hn j (by omega)
  have h : ¬ i < a6.length := by simpa using h
  have hd : a6.contains true = false := notIn fun j => by
    by_cases hj : j < i
    · exact hn j hj
    · rw [List.getElem?_eq_none (by omega)]; simp
  simp -implicitDefEqProofs -dsimp only [go_sem, reduceIte, reduceCtorEq, Nat.reduceAdd, Nat.reduceMul, Nat.reduceSub, Nat.reduceDiv, Nat.reduceLT, Nat.reduceLeDiff, Nat.reduceEqDiff, Nat.reduceBEq, Nat.reduceBNe, Int.reduceToNat, Int.reduceEq, Int.reduceLT, Int.reduceLE, Int.reduceNeg, c19, hL]
  simp only [doneF, hc, hd, Bool.not_false, Bool.and_self]
theorem done2_ok {T : Nat → Option Fn} (h20 : T 20 = some c20) {k : Nat} {s : Snap} (hs : Whole k s) (hcn : ∀ x ∈ s.cut, -1 ≤ x) (L : Nat → Lab) (hL : ∀ i, L i ≠ .own) :
    EvF T 20 [] [.agg (snapRow L s)] [] (.one (.sc (.bool (doneF s))), []) := by
  obtain ⟨n1, n5, co, cu, sa, ch, op, re, chk, rek⟩ := hs
  obtain ⟨a1, a2, a3, a4, a5, a6, a7⟩ := s
  simp only at n1 n5 co cu sa ch op re chk rek hcn
  have hq : a1.length * a1.length ≤ 25 := Nat.mul_le_mul n5 n5
  refine EvF.run h20 ?_
  simp -implicitDefEqProofs -dsimp only [go_sem, reduceIte, reduceCtorEq, Nat.reduceAdd, Nat.reduceMul, Nat.reduceSub, Nat.reduceDiv, Nat.reduceLT, Nat.reduceLeDiff, Nat.reduceEqDiff, Nat.reduceBEq, Nat.reduceBNe, Int.reduceToNat, Int.reduceEq, Int.reduceLT, Int.reduceLE, Int.reduceNeg, c20, snapRow, hL]
  refine LoopW.intro (fun n t => ∃ i : Nat, n + i = a4.length ∧ (∀ j, j < i → a4[j]? ≠ some (-1)) ∧ t = [(1, .one (.ptr 5001 0), 0), (3, .one (.sc (.int .i64 i)), 0), (5001, .agg (snapRow L ⟨a1, a2, a3, a4, a5, a6, a7⟩), 0)]) ?_ a4.length ?_
  case refine_2 => simp -implicitDefEqProofs -dsimp only [go_sem, reduceIte, reduceCtorEq, Nat.reduceAdd, Nat.reduceMul, Nat.reduceSub, Nat.reduceDiv, Nat.reduceLT, Nat.reduceLeDiff, Nat.reduceEqDiff, Nat.reduceBEq, Nat.reduceBNe, Int.reduceToNat, Int.reduceEq, Int.reduceLT, Int.reduceLE, Int.reduceNeg, c20]; exact ⟨0, by omega, by omega, rfl⟩
  rintro n t ⟨i, hi, hn, rfl⟩
  simp -implicitDefEqProofs -dsimp only [go_sem, reduceIte, reduceCtorEq, Nat.reduceAdd, Nat.reduceMul, Nat.reduceSub, Nat.reduceDiv, Nat.reduceLT, Nat.reduceLeDiff, Nat.reduceEqDiff, Nat.reduceBEq, Nat.reduceBNe, Int.reduceToNat, Int.reduceEq, Int.reduceLT, Int.reduceLE, Int.reduceNeg, c20, snapRow, hL]
  refine condW_intro (fun h => ?_) (fun h => ?_)
  · have h : i < a4.length := by simpa using h
    have e1 : a4[i]? = some a4[i] := by simp [h]
    have hx := hcn a4[i] (by simp)
    simp -implicitDefEqProofs -dsimp only [go_sem, reduceIte, reduceCtorEq, Nat.reduceAdd, Nat.reduceMul, Nat.reduceSub, Nat.reduceDiv, Nat.reduceLT, Nat.reduceLeDiff, Nat.reduceEqDiff, Nat.reduceBEq, Nat.reduceBNe, Int.reduceToNat, Int.reduceEq, Int.reduceLT, Int.reduceLE, Int.reduceNeg, c20, hL, h, e1]
    by_cases hm : a4[i] = -1
    · simp -implicitDefEqProofs -dsimp only [go_sem, reduceIte, reduceCtorEq, Nat.reduceAdd, Nat.reduceMul, Nat.reduceSub, Nat.reduceDiv, Nat.reduceLT, Nat.reduceLeDiff, Nat.reduceEqDiff, Nat.reduceBEq, Nat.reduceBNe, Int.reduceToNat, Int.reduceEq, Int.reduceLT, Int.reduceLE, Int.reduceNeg, c20, hm]
      rw [hm] at e1
      simp only [doneF, isIn e1, Bool.not_true, Bool.false_and, Bool.and_false]
    · have hm' : (a4[i] < 0) = False := eq_false (by omega)
      simp -implicitDefEqProofs -dsimp only [go_sem, reduceIte, reduceCtorEq, Nat.reduceAdd, Nat.reduceMul, Nat.reduceSub, Nat.reduceDiv, Nat.reduceLT, Nat.reduceLeDiff, Nat.reduceEqDiff, Nat.reduceBEq, Nat.reduceBNe, Int.reduceToNat, Int.reduceEq, Int.reduceLT, Int.reduceLE, Int.reduceNeg, c20, hm', wS (show i < 4611686018427387904 by omega)]
      refine ⟨n - 1, by omega, i + 1, by omega, fun j hj => ?_, rfl⟩
      by_cases e : j = i
      · subst e; rw [e1]; simpa using hm
      · exact hn j (by omega)
  have h : ¬ i < a4.length := by simpa using h
  have hc : a4.contains (-1) = false := notIn fun j => by
    by_cases hj : j < i
    · exact hn j hj
    · rw [List.getElem?_eq_none (by omega)]; simp
  simp -implicitDefEqProofs -dsimp only [go_sem, reduceIte, reduceCtorEq, Nat.reduceAdd, Nat.reduceMul, Nat.reduceSub, Nat.reduceDiv, Nat.reduceLT, Nat.reduceLeDiff, Nat.reduceEqDiff, Nat.reduceBEq, Nat.reduceBNe, Int.reduceToNat, Int.reduceEq, Int.reduceLT, Int.reduceLE, Int.reduceNeg, c20, hL]
  refine LoopW.intro (fun n t => ∃ i : Nat, n + i = a6.length ∧ (∀ j, j < i → a6[j]? ≠ some true) ∧ t = [(1, .one (.ptr 5001 0), 0), (4, .one (.sc (.int .i64 i)), 0), (5001, .agg (snapRow L ⟨a1, a2, a3, a4, a5, a6, a7⟩), 0)]) ?_ a6.length ?_
  case refine_2 => simp -implicitDefEqProofs -dsimp only [go_sem, reduceIte, reduceCtorEq, Nat.reduceAdd, Nat.reduceMul, Nat.reduceSub, Nat.reduceDiv, Nat.reduceLT, Nat.reduceLeDiff, Nat.reduceEqDiff, Nat.reduceBEq, Nat.reduceBNe, Int.reduceToNat, Int.reduceEq, Int.reduceLT, Int.reduceLE, Int.reduceNeg, c20]; exact ⟨0, by omega, by omega, rfl⟩
  rintro n t ⟨i, hi, hn, rfl⟩
  simp -implicitDefEqProofs -dsimp only [go_sem, reduceIte, reduceCtorEq, Nat.reduceAdd, Nat.reduceMul, Nat.reduceSub, Nat.reduceDiv, Nat.reduceLT, Nat.reduceLeDiff, Nat.reduceEqDiff, Nat.reduceBEq, Nat.reduceBNe, Int.reduceToNat, Int.reduceEq, Int.reduceLT, Int.reduceLE, Int.reduceNeg, c20, snapRow, hL]
  refine condW_intro (fun h => ?_) (fun h => ?_)
  · have h : i < a6.length := by simpa using h
    have e1 : a6[i]? = some a6[i] := by simp [h]
    simp -implicitDefEqProofs -dsimp only [go_sem, reduceIte, reduceCtorEq, Nat.reduceAdd, Nat.reduceMul, Nat.reduceSub, Nat.reduceDiv, Nat.reduceLT, Nat.reduceLeDiff, Nat.reduceEqDiff, Nat.reduceBEq, Nat.reduceBNe, Int.reduceToNat, Int.reduceEq, Int.reduceLT, Int.reduceLE, Int.reduceNeg, c20, hL, h, e1]
    by_cases hm : a6[i] = true
    · simp -implicitDefEqProofs -dsimp only [go_sem, reduceIte, reduceCtorEq, Nat.reduceAdd, Nat.reduceMul, Nat.reduceSub, Nat.reduceDiv, Nat.reduceLT, Nat.reduceLeDiff, Nat.reduceEqDiff, Nat.reduceBEq, Nat.reduceBNe, Int.reduceToNat, Int.reduceEq, Int.reduceLT, Int.reduceLE, Int.reduceNeg, c20, hm]
      rw [hm] at e1
      simp only [doneF, isIn e1, Bool.not_true, Bool.false_and, Bool.and_false]
    · have hm' : a6[i] = false := by simpa using hm
      simp -implicitDefEqProofs -dsimp only [go_sem, reduceIte, reduceCtorEq, Nat.reduceAdd, Nat.reduceMul, Nat.reduceSub, Nat.reduceDiv, Nat.reduceLT, Nat.reduceLeDiff, Nat.reduceEqDiff, Nat.reduceBEq, Nat.reduceBNe, Int.reduceToNat, Int.reduceEq, Int.reduceLT, Int.reduceLE, Int.reduceNeg, c20, hm', wS (show i < 4611686018427387904 by omega)]
      refine ⟨n - 1, by omega, i + 1, by omega, fun j hj => ?_, rfl⟩
      by_cases e : j = i
      · subst e; rw [e1]; simp [hm']
      · exact hn j (by omega)
  have h : ¬ i < a6.length := by simpa using h
  have hd : a6.contains true = false := notIn fun j => by
    by_cases hj : j < i
    · exact hn j hj
    · rw [List.getElem?_eq_none (by omega)]; simp
  simp -implicitDefEqProofs -dsimp only [go_sem, reduceIte, reduceCtorEq, Nat.reduceAdd, Nat.reduceMul, Nat.reduceSub, Nat.reduceDiv, Nat.reduceLT, Nat.reduceLeDiff, Nat.reduceEqDiff, Nat.reduceBEq, Nat.reduceBNe, Int.reduceToNat, Int.reduceEq, Int.reduceLT, Int.reduceLE, Int.reduceNeg, c20, hL]
  simp only [doneF, hc, hd, Bool.not_false, Bool.and_self]
end Pv

set_option maxRecDepth 100000
set_option linter.unusedVariables false
set_option linter.unusedSimpArgs false
namespace Pv
open Go
structure Live (k : Nat) (s : Snap) : Prop where
  wh : Whole k s
  cnt : ∀ x ∈ s.counts, 0 ≤ x ∧ x ≤ k
  ctk : ∀ x ∈ s.cut, -1 ≤ x
theorem Live.mono {k j : Nat} {s : Snap} (h : Live k s) (hkj : k ≤ j) : Live j s := by
  obtain ⟨⟨n1, n5, co, cu, sa, ch, op, re, chk, rek⟩, cnt, ctk⟩ := h
  exact ⟨⟨n1, n5, co, cu, sa, ch, op, re, fun x hx => Nat.le_trans (chk x hx) hkj, fun x hx => Nat.le_trans (rek x hx) hkj⟩, fun x hx => by have := cnt x hx; omega, ctk⟩
theorem inv_new {v : List Int} (h1 : 1 ≤ v.length) (h5 : v.length ≤ 5) : Live 0 (newSnap v) := by
  refine ⟨⟨h1, h5, ?_, ?_, ?_, ?_, ?_, ?_, ?_, ?_⟩, ?_, ?_⟩ <;> simp [newSnap]
theorem mem_set {α : Type} {l : List α} {i : Nat} {a x : α} (h : x ∈ l.set i a) : x ∈ l ∨ x = a := List.mem_or_eq_of_mem_set h
theorem inv_rec {k : Nat} {s : Snap} {p : Nat} (h : Live k s) (hp : p < s.values.length) : Live (k + 1) (recF s p) := by
  obtain ⟨⟨n1, n5, co, cu, sa, ch, op, re, chk, rek⟩, cnt, ctk⟩ := h
  have hl := recTo_len (n := s.values.length) (p := p) (c := s.chans) (o := s.opn) s.values.length
  have e2 : s.counts[p]? = some (s.counts[p]'(by omega)) := by simp [co, hp]
  refine ⟨⟨n1, n5, co, ?_, ?_, ?_, ?_, re, ?_, fun x hx => by have := rek x hx; omega⟩, fun x hx => by have := cnt x hx; omega, ?_⟩
  · simp only [recF, List.length_set]; exact cu
  · simp only [recF, List.length_set]; exact sa
  · simp only [recF]; rw [hl.1]; exact ch
  · simp only [recF]; rw [hl.2]; exact op
  · intro x hx; simp only [recF] at hx; exact recTo_small hp chk _ (Nat.le_refl _) x hx
  · intro x hx
    simp only [recF] at hx
    rcases mem_set hx with h | h
    · exact ctk x h
    · have := cnt (s.counts[p]'(by omega)) (by simp); rw [h, e2, Option.getD_some]; omega
theorem inv_mark {k : Nat} {s : Snap} {p : Nat} (h : Live k s) (hp : p < s.values.length) : Live (k + 1) (markF s p) := by
  unfold markF
  split
  · exact inv_rec h hp
  · exact h.mono (by omega)
theorem inv_putC {k : Nat} {s : Snap} {j : Nat} {x : List (Bool × Int)} (h : Live k s) (hx : x.length ≤ k) : Live k (putC s j x) := by
  obtain ⟨⟨n1, n5, co, cu, sa, ch, op, re, chk, rek⟩, cnt, ctk⟩ := h
  refine ⟨⟨n1, n5, co, cu, sa, by simp only [putC, List.length_set]; exact ch, op, re, ?_, rek⟩, cnt, ctk⟩
  intro y hy
  rcases mem_set hy with h | h
  · exact chk y h
  · rw [h]; exact hx
theorem inv_shut {k : Nat} {s : Snap} {j : Nat} (h : Live k s) : Live k (shutF s j) := by
  obtain ⟨⟨n1, n5, co, cu, sa, ch, op, re, chk, rek⟩, cnt, ctk⟩ := h
  exact ⟨⟨n1, n5, co, cu, sa, ch, by simp only [shutF, List.length_set]; exact op, re, chk, rek⟩, cnt, ctk⟩
theorem cntUp {k : Nat} {s : Snap} {q : Nat} (co : s.counts.length = s.values.length) (cnt : ∀ x ∈ s.counts, 0 ≤ x ∧ x ≤ k) (hk : k ≤ 1000000) (hq : q < s.values.length) :
    ∀ x ∈ s.counts.set q (IntKind.i64.wrap (s.counts[q]?.getD 0 + 1)), 0 ≤ x ∧ x ≤ ((k + 1 : Nat) : Int) := by
  intro x hx
  have e2 : s.counts[q]? = some (s.counts[q]'(by omega)) := by simp [co, hq]
  rcases mem_set hx with h | h
  · have := cnt x h; omega
  · have := cnt (s.counts[q]'(by omega)) (by simp)
    rw [h, e2, Option.getD_some, w64 (by omega) (by omega)]; omega
theorem inv_send {k : Nat} {s : Snap} {j p : Nat} {v : Int} (h : Live k s) (hk : k ≤ 1000000) (hp : p < s.values.length) : Live (k + 1) (sendF s j p v) := by
  obtain ⟨⟨n1, n5, co, cu, sa, ch, op, re, chk, rek⟩, cnt, ctk⟩ := h
  refine ⟨⟨?_, ?_, ?_, ?_, ?_, ?_, ?_, ?_, ?_, fun x hx => by have := rek x hx; omega⟩, cntUp co cnt hk hp, ctk⟩ <;> try (simp only [sendF, List.length_set]; assumption)
  intro y hy
  rcases mem_set hy with h | h
  · have := chk y h; omega
  · rw [h]
    cases hh : s.chans[j]? with
    | none => simp
    | some z => have := chk z (List.mem_of_getElem? hh); simp; omega
theorem inv_recv {k : Nat} {s : Snap} {j q : Nat} {v : Int} (h : Live k s) (hk : k ≤ 1000000) (hq : q < s.values.length) : Live (k + 1) (recvF s j q v) := by
  obtain ⟨⟨n1, n5, co, cu, sa, ch, op, re, chk, rek⟩, cnt, ctk⟩ := h
  refine ⟨⟨?_, ?_, ?_, ?_, ?_, ?_, ?_, ?_, fun x hx => by have := chk x hx; omega, ?_⟩, cntUp co cnt hk hq, ctk⟩ <;> try (simp only [recvF, List.length_set]; assumption)
  · simp only [recvF, List.length_set]; split <;> simp [re]
  · intro y hy
    simp only [recvF] at hy
    split at hy
    · rcases mem_set hy with h | h
      · have := rek y h; omega
      · rw [h]
        cases hh : s.record[j]? with
        | none => simp
        | some z => have := rek z (List.mem_of_getElem? hh); simp; omega
    · have := rek y hy; omega
theorem markF_len {s : Snap} {p : Nat} : (markF s p).values = s.values := by unfold markF; split <;> rfl
theorem inv_step {k : Nat} {s : Snap} (h : Live k s) (hk : k ≤ 1000000) (m : Mv) (h0 : (stepF s m).2 = 0) : Live (k + 1) (stepF s m).1 ∧ (stepF s m).1.values.length = s.values.length := by
  unfold stepF at h0 ⊢
  split
  · rename_i h3; rw [if_pos h3] at h0
    split
    · rename_i hf
      exact ⟨inv_mark h (by omega), by rw [markF_len]⟩
    · rename_i hf; rw [if_neg hf] at h0; simp at h0
  · rename_i h3; rw [if_neg h3] at h0
    split
    · rename_i h12; rw [if_pos h12] at h0
      split
      · rename_i hf; rw [if_pos hf] at h0
        split
        · rename_i h1; rw [if_pos h1] at h0
          split
          · rename_i h6; rw [if_pos h6] at h0; simp at h0
          · exact ⟨inv_send h hk (by omega), by simp [sendF]⟩
        · rename_i h1; rw [if_neg h1] at h0
          have hq : m.to.toNat < s.values.length := by omega
          generalize m.fr.toNat * s.values.length + m.to.toNat = j at h0 ⊢
          unfold delF at h0 ⊢
          have hr : ∀ r b x, s.chans[j]?.getD [] = (b, x) :: r → r.length ≤ k := by
            intro r b x hh
            cases hc : s.chans[j]? with
            | none => simp [hc] at hh
            | some z =>
              have := h.wh.chk z (List.mem_of_getElem? hc)
              simp [hc] at hh; rw [hh] at this; simp at this; omega
          split
          · rename_i hh; rw [hh] at h0; simp at h0
          · rename_i x r hh
            have hi := inv_putC (j := j) h (hr _ _ _ hh)
            exact ⟨inv_shut (inv_mark hi hq), by simp [shutF, markF_len, putC]⟩
          · rename_i x r hh
            have hi := inv_putC (j := j) h (hr _ _ _ hh)
            exact ⟨inv_recv hi hk hq, by simp [recvF, putC]⟩
      · rename_i hf; rw [if_neg hf] at h0; simp at h0
    · rename_i h12; rw [if_neg h12] at h0; simp at h0
theorem small_inv {k : Nat} {s : Snap} (h : Live k s) (hk : k ≤ 1000000) : Small s := by
  obtain ⟨⟨n1, n5, co, cu, sa, ch, op, re, chk, rek⟩, cnt, ctk⟩ := h
  have hq : s.values.length * s.values.length ≤ 25 := Nat.mul_le_mul n5 n5
  refine ⟨by omega, by omega, by omega, by omega, by omega, by omega, by omega, fun x hx => ?_, fun x hx => ?_⟩
  · have := chk x hx; omega
  · have := rek x hx; omega
theorem small_no : Small noSnap := by constructor <;> simp [noSnap]
theorem small_step {k : Nat} {s : Snap} (h : Live k s) (hk : k < 1000000) (m : Mv) : Small (stepF s m).1 := by
  by_cases h0 : (stepF s m).2 = 0
  · exact small_inv (inv_step h (by omega) m h0).1 (by omega)
  · rw [stepF_err s m h0]; exact small_no
end Pv

set_option linter.unusedVariables false
namespace Pv
open Go
def advF (s : Snap) (m : Mv) : Snap := if (stepF s m).2 = 0 then (stepF s m).1 else s
theorem live_adv {k : Nat} {s : Snap} (h : Live k s) (hk : k ≤ 1000000) (m : Mv) : Live (k + 1) (advF s m) ∧ (advF s m).values.length = s.values.length := by
  unfold advF
  split
  · rename_i h0; exact inv_step h hk m h0
  · exact ⟨h.mono (by omega), rfl⟩
theorem advTk {ms : List Mv} {i : Nat} {m : Mv} {s : Snap} (h : ms[i]? = some m) : (ms.take (i + 1)).foldl advF s = advF ((ms.take i).foldl advF s) m := foldTk h
end Pv

set_option linter.unusedVariables false
set_option linter.unusedSimpArgs false
namespace Pv
open Go
def chA (s : Snap) (k : Nat) : List (Bool × Int) := s.chans[k]?.getD []
def opA (s : Snap) (k : Nat) : Bool := s.opn[k]?.getD false
def rcA (s : Snap) (k : Nat) : List Int := s.record[k]?.getD []
def Rd (s : Snap) (p : Nat) : Bool := !decide (s.cut[p]? = some (-1))
def mks : List (Bool × Int) → Nat
  | [] => 0
  | (b, _) :: r => (if b = true then 1 else 0) + mks r
theorem mks_app (b : Bool) (x : Int) : ∀ c, mks (c ++ [(b, x)]) = mks c + (if b = true then 1 else 0)
  | [] => by simp [mks]
  | (d, _) :: r => by rw [List.cons_append, mks, mks, mks_app b x r]; omega
theorem getD_set {α : Type} {l : List α} {i k : Nat} {a d : α} : (l.set i a)[k]?.getD d = if i = k ∧ k < l.length then a else l[k]?.getD d := by
  rw [List.getElem?_set]
  by_cases h : i = k
  · subst h
    by_cases h2 : i < l.length
    · simp [h2]
    · simp [h2]
  · simp [h]
theorem idx_div {p q n : Nat} (hq : q < n) : (p * n + q) / n = p := by
  rw [Nat.mul_comm, Nat.mul_add_div (by omega), Nat.div_eq_of_lt hq]; rfl
theorem idx_mod {p q n : Nat} (hq : q < n) : (p * n + q) % n = q := by
  rw [Nat.mul_comm, Nat.mul_add_mod, Nat.mod_eq_of_lt hq]
theorem idx_of {k n : Nat} : k / n * n + k % n = k := Nat.div_add_mod' k n
theorem idx_iff {p q n k : Nat} (hn : 0 < n) (hq : q < n) : p * n + q = k ↔ k / n = p ∧ k % n = q := by
  constructor
  · rintro rfl; exact ⟨idx_div hq, idx_mod hq⟩
  · rintro ⟨rfl, rfl⟩; exact idx_of
theorem recTo_ch {n p : Nat} (hp : p < n) {c : List (List (Bool × Int))} {o : List Bool} (hc : c.length = n * n) : ∀ Q, Q ≤ n → ∀ k, k < n * n → (recTo n p c o Q).1[k]?.getD [] = if k / n = p ∧ k % n < Q ∧ k % n ≠ p then c[k]?.getD [] ++ [(true, 0)] else c[k]?.getD []
  | 0, _, k, hk => by simp [recTo]
  | Q + 1, hQ, k, hk => by
    have ih := recTo_ch hp (o := o) hc Q (by omega) k hk
    have hl := (recTo_len (n := n) (p := p) (c := c) (o := o) Q).1
    unfold recTo
    by_cases hqp : Q = p
    · rw [if_pos hqp, ih]
      by_cases h1 : k / n = p ∧ k % n < Q ∧ k % n ≠ p
      · rw [if_pos h1, if_pos ⟨h1.1, by omega, h1.2.2⟩]
      · rw [if_neg h1, if_neg (by rintro ⟨a, b, d⟩; exact h1 ⟨a, by omega, d⟩)]
    · rw [if_neg hqp]
      simp only [addMk]
      rw [getD_set, hl, hc]
      have hi := idx_iff (p := p) (k := k) (by omega : 0 < n) (show Q < n by omega)
      by_cases he : p * n + Q = k
      · obtain ⟨e1, e2⟩ := hi.1 he
        rw [if_pos ⟨he, hk⟩, he, ih, if_neg (by omega), if_pos ⟨e1, by omega, by omega⟩]
      · rw [if_neg (fun h => he h.1), ih]
        by_cases h1 : k / n = p ∧ k % n < Q ∧ k % n ≠ p
        · rw [if_pos h1, if_pos ⟨h1.1, by omega, h1.2.2⟩]
        · rw [if_neg h1, if_neg (by
            rintro ⟨a, b, d⟩
            by_cases e : k % n = Q
            · exact he (hi.2 ⟨a, e⟩)
            · exact h1 ⟨a, by omega, d⟩)]
theorem recTo_op {n p : Nat} (hp : p < n) {c : List (List (Bool × Int))} {o : List Bool} (ho : o.length = n * n) : ∀ Q, Q ≤ n → ∀ k, k < n * n → (recTo n p c o Q).2[k]?.getD false = if k % n = p ∧ k / n < Q ∧ k / n ≠ p then true else o[k]?.getD false
  | 0, _, k, hk => by simp [recTo]
  | Q + 1, hQ, k, hk => by
    have ih := recTo_op hp (c := c) ho Q (by omega) k hk
    have hl := (recTo_len (n := n) (p := p) (c := c) (o := o) Q).2
    unfold recTo
    by_cases hqp : Q = p
    · rw [if_pos hqp, ih]
      by_cases h1 : k % n = p ∧ k / n < Q ∧ k / n ≠ p
      · rw [if_pos h1, if_pos ⟨h1.1, by omega, h1.2.2⟩]
      · rw [if_neg h1, if_neg (by rintro ⟨a, b, d⟩; exact h1 ⟨a, by omega, d⟩)]
    · rw [if_neg hqp]
      simp only
      rw [getD_set, hl, ho]
      have hi := idx_iff (p := Q) (k := k) (by omega : 0 < n) hp
      by_cases he : Q * n + p = k
      · obtain ⟨e1, e2⟩ := hi.1 he
        rw [if_pos ⟨he, hk⟩, if_pos ⟨e2, by omega, by omega⟩]
      · rw [if_neg (fun h => he h.1), ih]
        by_cases h1 : k % n = p ∧ k / n < Q ∧ k / n ≠ p
        · rw [if_pos h1, if_pos ⟨h1.1, by omega, h1.2.2⟩]
        · rw [if_neg h1, if_neg (by
            rintro ⟨a, b, d⟩
            by_cases e : k / n = Q
            · exact he (hi.2 ⟨e, a⟩)
            · exact h1 ⟨a, by omega, d⟩)]
def Good (s : Snap) (k : Nat) : Prop :=
  let a := k / s.values.length; let b := k % s.values.length
  if a = b then chA s k = [] ∧ opA s k = false else
  if Rd s a = true then (mks (chA s k) = 1 ∧ opA s k = Rd s b) ∨ (mks (chA s k) = 0 ∧ Rd s b = true ∧ opA s k = false)
  else mks (chA s k) = 0 ∧ opA s k = Rd s b
def AllGood (s : Snap) : Prop := ∀ k, k < s.values.length * s.values.length → Good s k
theorem view_rec {k : Nat} {s : Snap} {p : Nat} (h : Live k s) (hp : p < s.values.length) : (∀ j, j < s.values.length * s.values.length → chA (recF s p) j = if j / s.values.length = p ∧ j % s.values.length ≠ p then chA s j ++ [(true, 0)] else chA s j) ∧
    (∀ j, j < s.values.length * s.values.length → opA (recF s p) j = if j % s.values.length = p ∧ j / s.values.length ≠ p then true else opA s j) ∧ (∀ q, Rd (recF s p) q = if q = p then true else Rd s q) := by
  have hn : 0 < s.values.length := by omega
  refine ⟨fun j hj => ?_, fun j hj => ?_, fun q => ?_⟩
  · have := recTo_ch hp (o := s.opn) h.wh.ch s.values.length (Nat.le_refl _) j hj
    have hm := Nat.mod_lt j hn
    simp only [chA, recF]; rw [this]
    by_cases hh : j / s.values.length = p ∧ j % s.values.length ≠ p
    · rw [if_pos ⟨hh.1, hm, hh.2⟩, if_pos hh]
    · rw [if_neg (fun x => hh ⟨x.1, x.2.2⟩), if_neg hh]
  · have := recTo_op hp (c := s.chans) h.wh.op s.values.length (Nat.le_refl _) j hj
    have hd : j / s.values.length < s.values.length := Nat.div_lt_of_lt_mul hj
    simp only [opA, recF]; rw [this]
    by_cases hh : j % s.values.length = p ∧ j / s.values.length ≠ p
    · rw [if_pos ⟨hh.1, hd, hh.2⟩, if_pos hh]
    · rw [if_neg (fun x => hh ⟨x.1, x.2.2⟩), if_neg hh]
  · have l2 : p < s.counts.length := by rw [h.wh.co]; exact hp
    have e2 : s.counts[p]? = some s.counts[p] := by simp [l2]
    have hc := h.cnt s.counts[p] (by simp)
    simp only [Rd, recF, List.getElem?_set, e2, Option.getD_some]
    by_cases e : p = q
    · subst e
      rw [if_pos rfl, if_pos rfl, if_pos (by rw [h.wh.cu]; exact hp)]
      simp; omega
    · rw [if_neg e, if_neg (fun x => e x.symm)]
theorem view_mark {k : Nat} {s : Snap} {p : Nat} (h : Live k s) (hp : p < s.values.length) : (∀ j, j < s.values.length * s.values.length → chA (markF s p) j = if Rd s p = false ∧ j / s.values.length = p ∧ j % s.values.length ≠ p then chA s j ++ [(true, 0)] else chA s j) ∧
    (∀ j, j < s.values.length * s.values.length → opA (markF s p) j = if Rd s p = false ∧ j % s.values.length = p ∧ j / s.values.length ≠ p then true else opA s j) ∧ (∀ q, Rd (markF s p) q = if q = p then true else Rd s q) := by
  unfold markF
  by_cases hm : s.cut[p]? = some (-1)
  · have hR : Rd s p = false := by simp [Rd, hm]
    rw [if_pos hm]
    obtain ⟨h1, h2, h3⟩ := view_rec h hp
    exact ⟨fun j hj => by rw [h1 j hj]; simp [hR], fun j hj => by rw [h2 j hj]; simp [hR], h3⟩
  · have hR : Rd s p = true := by simp [Rd, hm]
    rw [if_neg hm]
    refine ⟨fun j hj => by simp [hR], fun j hj => by simp [hR], fun q => ?_⟩
    by_cases e : q = p
    · rw [if_pos e, e, hR]
    · rw [if_neg e]
theorem good_mark {k : Nat} {s : Snap} {p j : Nat} (h : Live k s) (hp : p < s.values.length) (hj : j < s.values.length * s.values.length) (hg : Good s j) : Good (markF s p) j := by
  obtain ⟨h1, h2, h3⟩ := view_mark h hp
  have hv : (markF s p).values = s.values := markF_len
  have hd : j / s.values.length < s.values.length := Nat.div_lt_of_lt_mul hj
  have c1 := h1 j hj
  have c2 := h2 j hj
  have c3 := h3 (j / s.values.length)
  have c4 := h3 (j % s.values.length)
  unfold Good at hg ⊢
  simp only at hg ⊢
  rw [hv]
  by_cases hab : j / s.values.length = j % s.values.length
  · rw [if_pos hab] at hg ⊢
    rw [if_neg (by rintro ⟨_, a, b⟩; exact b (by omega))] at c1
    rw [if_neg (by rintro ⟨_, a, b⟩; exact b (by omega))] at c2
    rw [c1, c2]; exact hg
  rw [if_neg hab] at hg ⊢
  by_cases hR : Rd s p = true
  · have e1 : ∀ q, (if q = p then true else Rd s q) = Rd s q := by intro q; split <;> simp_all
    rw [e1] at c3 c4
    rw [if_neg (by simp [hR])] at c1 c2
    rw [c1, c2, c3, c4]
    exact hg
  have hR : Rd s p = false := by simpa using hR
  by_cases ha : j / s.values.length = p
  · have hb : j % s.values.length ≠ p := by omega
    rw [if_pos ⟨hR, ha, hb⟩] at c1
    rw [if_neg (by rintro ⟨_, a, _⟩; exact hb a)] at c2
    rw [if_pos ha] at c3
    rw [if_neg hb] at c4
    rw [c1, c2, c3, c4, if_pos rfl]
    rw [ha, hR, if_neg (by simp)] at hg
    exact .inl ⟨by rw [mks_app, hg.1]; rfl, hg.2⟩
  · rw [if_neg (by rintro ⟨_, a, _⟩; exact ha a)] at c1
    rw [if_neg ha] at c3
    by_cases hb : j % s.values.length = p
    · rw [if_pos ⟨hR, hb, ha⟩] at c2
      rw [if_pos hb] at c4
      rw [hb, hR] at hg
      rw [c1, c2, c3, c4]
      split
      · rename_i hra; rw [if_pos hra] at hg
        rcases hg with hg | hg
        · exact .inl ⟨hg.1, rfl⟩
        · exact absurd hg.2.1 (by simp)
      · rename_i hra; rw [if_neg hra] at hg; exact ⟨hg.1, rfl⟩
    · rw [if_neg (by rintro ⟨_, a, _⟩; exact hb a)] at c2
      rw [if_neg hb] at c4
      rw [c1, c2, c3, c4]; exact hg
theorem Good.congr {s t : Snap} {j : Nat} (hv : t.values.length = s.values.length) (hc : mks (chA t j) = mks (chA s j)) (hc0 : chA s j = [] → j / s.values.length = j % s.values.length → chA t j = []) (ho : opA t j = opA s j) (hR : ∀ q, Rd t q = Rd s q) (hg : Good s j) : Good t j := by
  unfold Good at hg ⊢
  simp only at hg ⊢
  rw [hv, hc, ho, hR, hR]
  split
  · rename_i h; rw [if_pos h] at hg; exact ⟨hc0 hg.1 h, hg.2⟩
  · rename_i h; rw [if_neg h] at hg; exact hg
theorem good_step {k : Nat} {s : Snap} (h : Live k s) (hg : AllGood s) (m : Mv) (h0 : (stepF s m).2 = 0) : AllGood (stepF s m).1 := by
  unfold stepF at h0 ⊢
  split
  · rename_i h3; rw [if_pos h3] at h0
    split
    · rename_i hf
      intro j hj
      rw [markF_len] at hj
      exact good_mark h (by omega) hj (hg j hj)
    · rename_i hf; rw [if_neg hf] at h0; simp at h0
  · rename_i h3; rw [if_neg h3] at h0
    split
    case isFalse => rename_i h12; rw [if_neg h12] at h0; simp at h0
    rename_i h12; rw [if_pos h12] at h0
    split
    case isFalse => rename_i hf; rw [if_neg hf] at h0; simp at h0
    rename_i hf; rw [if_pos hf] at h0
    obtain ⟨p, hp⟩ : ∃ p : Nat, m.fr = p := ⟨m.fr.toNat, by omega⟩
    obtain ⟨q, hq⟩ : ∃ q : Nat, m.to = q := ⟨m.to.toNat, by omega⟩
    have hpn : p < s.values.length := by omega
    have hqn : q < s.values.length := by omega
    have hne : p ≠ q := by omega
    rw [hp, hq] at h0 ⊢
    simp only [Int.toNat_natCast] at h0 ⊢
    have hi : ∀ j, p * s.values.length + q = j ↔ j / s.values.length = p ∧ j % s.values.length = q := fun j => idx_iff (by omega) hqn
    have hl := chan_lt hpn hqn
    split
    · rename_i h1; rw [if_pos h1] at h0
      split
      · rename_i h6; rw [if_pos h6] at h0; simp at h0
      · intro j hj
        simp only [sendF, List.length_set] at hj
        refine Good.congr (s := s) (by simp [sendF]) ?_ ?_ rfl (fun _ => rfl) (hg j hj)
        · simp only [chA, sendF, getD_set]
          split
          · rename_i hh; rw [hh.1, mks_app]; rfl
          · rfl
        · intro hc hab
          simp only [chA, sendF, getD_set]
          split
          · rename_i hh; have := (hi j).1 hh.1; omega
          · exact hc
    · rename_i h1; rw [if_neg h1] at h0
      have gk := hg _ hl
      unfold delF at h0 ⊢
      split
      · rename_i hh; rw [hh] at h0; simp at h0
      · rename_i x r hh
        have hcl : r.length ≤ k := by
          cases hc : s.chans[p * s.values.length + q]? with
          | none => simp [hc] at hh
          | some z => have := h.wh.chk z (List.mem_of_getElem? hc); simp [hc] at hh; rw [hh] at this; simp at this; omega
        have hi1 := inv_putC (j := p * s.values.length + q) h hcl
        have hk1 : chA s (p * s.values.length + q) = (true, x) :: r := hh
        unfold Good at gk
        simp only [idx_div hqn, idx_mod hqn, if_neg hne, hk1, mks, if_true] at gk
        have hRp : Rd s p = true := by
          by_cases hR : Rd s p = true
          · exact hR
          · rw [if_neg hR] at gk; omega
        rw [if_pos hRp] at gk
        have hr0 : mks r = 0 := by rcases gk with gk | gk <;> omega
        obtain ⟨v1, v2, v3⟩ := view_mark hi1 (p := q) hqn
        intro j hj
        have hj : j < s.values.length * s.values.length := by
          have : (shutF (markF (putC s (p * s.values.length + q) r) q) (p * s.values.length + q)).values = s.values := by
            show (markF (putC s (p * s.values.length + q) r) q).values = _
            rw [markF_len]; rfl
          rw [this] at hj; exact hj
        by_cases he : p * s.values.length + q = j
        · subst he
          unfold Good
          have hvs : (shutF (markF (putC s (p * s.values.length + q) r) q) (p * s.values.length + q)).values = s.values := by
            show (markF (putC s (p * s.values.length + q) r) q).values = _
            rw [markF_len]; rfl
          have hR2 : ∀ z, Rd (shutF (markF (putC s (p * s.values.length + q) r) q) (p * s.values.length + q)) z = if z = q then true else Rd s z := fun z => v3 z
          simp only [hvs, idx_div hqn, idx_mod hqn, if_neg hne]
          rw [hR2, if_neg hne, if_pos hRp]
          refine .inr ⟨?_, by rw [hR2, if_pos rfl], ?_⟩
          · show mks (chA (markF (putC s (p * s.values.length + q) r) q) (p * s.values.length + q)) = 0
            rw [v1 _ hl]
            rw [if_neg (by rintro ⟨_, a, _⟩; rw [show (putC s (p * s.values.length + q) r).values = s.values from rfl, idx_div hqn] at a; exact hne a)]
            simp only [chA, putC, getD_set, h.wh.ch]
            rw [if_pos ⟨trivial, hl⟩]; exact hr0
          · simp only [opA, shutF, getD_set]
            rw [if_pos]
            refine ⟨trivial, ?_⟩
            have := (inv_mark hi1 (p := q) hqn).wh.op
            rw [this, markF_len]; exact hl
        · have g1 : Good (putC s (p * s.values.length + q) r) j := by
            refine Good.congr (s := s) rfl ?_ ?_ rfl (fun _ => rfl) (hg j hj)
            · simp only [chA, putC, getD_set]; rw [if_neg (fun x => he x.1)]
            · intro hc _; simp only [chA, putC, getD_set]; rw [if_neg (fun x => he x.1)]; exact hc
          have g2 := good_mark hi1 (p := q) hqn hj g1
          refine Good.congr (s := markF (putC s (p * s.values.length + q) r) q) rfl rfl (fun hc _ => hc) ?_ (fun _ => rfl) g2
          simp only [opA, shutF, getD_set]; rw [if_neg (fun x => he x.1)]
      · rename_i x r hh
        have hk1 : chA s (p * s.values.length + q) = (false, x) :: r := hh
        intro j hj
        simp only [recvF, putC, List.length_set] at hj
        refine Good.congr (s := s) (by simp [recvF, putC]) ?_ ?_ rfl (fun _ => rfl) (hg j hj)
        · simp only [chA, recvF, putC, getD_set]
          split
          · rename_i he; rw [← he.1]
            have : s.chans[p * s.values.length + q]?.getD [] = (false, x) :: r := hh
            rw [this, mks]; simp
          · rfl
        · intro hc hab
          simp only [chA, recvF, putC, getD_set]
          split
          · rename_i he; have := (hi j).1 he.1; omega
          · exact hc
theorem good_new {v : List Int} (hv : 1 ≤ v.length) : AllGood (newSnap v) := by
  intro j hj
  have hvl : (newSnap v).values.length = v.length := rfl
  rw [hvl] at hj
  have hd : j / v.length < v.length := Nat.div_lt_of_lt_mul hj
  have hm : j % v.length < v.length := Nat.mod_lt _ (by omega)
  have hR : ∀ q, q < v.length → Rd (newSnap v) q = false := by intro q hq; simp [Rd, newSnap, hq]
  have hc : chA (newSnap v) j = [] := by simp [chA, newSnap, hj]
  have ho : opA (newSnap v) j = false := by simp [opA, newSnap, hj]
  unfold Good
  simp only [hvl, hc, ho, hR _ hd, hR _ hm]
  split
  · simp
  · simp [mks]
end Pv

set_option linter.unusedVariables false
set_option linter.unusedSimpArgs false
namespace Pv
open Go
def noM (c : List (Bool × Int)) : List (Bool × Int) := c.filter (fun x => !x.1)
theorem noM_app (b : Bool) (x : Int) (c : List (Bool × Int)) : noM (c ++ [(b, x)]) = if b = true then noM c else noM c ++ [(b, x)] := by
  unfold noM; rw [List.filter_append]; cases b <;> simp
theorem noM_cons (b : Bool) (x : Int) (c : List (Bool × Int)) : noM ((b, x) :: c) = if b = true then noM c else (b, x) :: noM c := by
  unfold noM; cases b <;> simp
structure Twin (s t : Snap) : Prop where
  v : t.values = s.values
  c : t.counts = s.counts
  ch : ∀ j, j < s.values.length * s.values.length → chA t j = noM (chA s j)
theorem twin_new (v : List Int) : Twin (newSnap v) (newSnap v) := ⟨rfl, rfl, fun j hj => by
  have hj : j < v.length * v.length := hj
  simp [chA, newSnap, hj, noM]⟩
theorem markF_cnt {s : Snap} {p : Nat} : (markF s p).counts = s.counts := by unfold markF; split <;> rfl
theorem twin_mark {k : Nat} {s t : Snap} {p : Nat} (h : Live k s) (hp : p < s.values.length) (ht : Twin s t) : Twin (markF s p) t := by
  refine ⟨by rw [markF_len]; exact ht.v, by rw [markF_cnt]; exact ht.c, fun j hj => ?_⟩
  rw [markF_len] at hj
  rw [(view_mark h hp).1 j hj, ht.ch j hj]
  split
  · rw [noM_app]; rfl
  · rfl
def plainM (s : Snap) (m : Mv) : Prop := m.kind = 1 ∨ (m.kind = 2 ∧ ∃ v r, chA s (m.fr.toNat * s.values.length + m.to.toNat) = (false, v) :: r)
theorem step_two {s : Snap} {m : Mv} (h2 : m.kind = 2) (h0 : (stepF s m).2 = 0) : ∃ p q : Nat, m.fr = p ∧ m.to = q ∧ p < s.values.length ∧ q < s.values.length ∧ p ≠ q ∧ ∃ b v r, chA s (p * s.values.length + q) = (b, v) :: r := by
  unfold stepF at h0
  rw [if_neg (by omega), if_pos (by omega)] at h0
  split at h0
  case isFalse => simp at h0
  rename_i hf
  rw [if_neg (by omega)] at h0
  refine ⟨m.fr.toNat, m.to.toNat, by omega, by omega, by omega, by omega, by omega, ?_⟩
  unfold delF at h0
  split at h0
  · simp at h0
  · rename_i x r hh; exact ⟨true, x, r, hh⟩
  · rename_i x r hh; exact ⟨false, x, r, hh⟩
theorem twin_step {k : Nat} {s t : Snap} (h : Live k s) (hl2 : Live k t) (ht : Twin s t) (m : Mv) (h0 : (stepF s m).2 = 0) :
    (plainM s m → (stepF t m).2 = 0 ∧ Twin (stepF s m).1 (stepF t m).1) ∧ (¬ plainM s m → Twin (stepF s m).1 t) := by
  have hvl : t.values.length = s.values.length := by rw [ht.v]
  by_cases h3 : m.kind = 3
  · have hn : ¬ plainM s m := by rintro (h | ⟨h, _⟩) <;> omega
    refine ⟨fun x => absurd x hn, fun _ => ?_⟩
    unfold stepF at h0 ⊢
    rw [if_pos h3] at h0 ⊢
    split
    · exact twin_mark h (by omega) ht
    · rename_i hf; rw [if_neg hf] at h0; simp at h0
  by_cases h12 : m.kind = 1 ∨ m.kind = 2
  case neg => unfold stepF at h0; rw [if_neg h3, if_neg h12] at h0; simp at h0
  by_cases hf : (0 ≤ m.fr ∧ m.fr < s.values.length) ∧ (0 ≤ m.to ∧ m.to < s.values.length) ∧ m.fr ≠ m.to
  case neg => unfold stepF at h0; rw [if_neg h3, if_pos h12, if_neg hf] at h0; simp at h0
  obtain ⟨p, hp⟩ : ∃ p : Nat, m.fr = p := ⟨m.fr.toNat, by omega⟩
  obtain ⟨q, hq⟩ : ∃ q : Nat, m.to = q := ⟨m.to.toNat, by omega⟩
  have hpn : p < s.values.length := by omega
  have hqn : q < s.values.length := by omega
  have hl := chan_lt hpn hqn
  have e3 : chA t (p * s.values.length + q) = noM (chA s (p * s.values.length + q)) := ht.ch _ hl
  have cl := h.wh.ch
  have cl2 := hl2.wh.ch
  rw [hvl] at cl2
  unfold stepF at h0 ⊢
  rw [if_neg h3, if_pos h12, if_pos hf] at h0 ⊢
  rw [if_neg h3, if_pos h12, hvl, if_pos hf]
  rw [hp, hq] at h0 ⊢
  simp only [Int.toNat_natCast] at h0 ⊢
  by_cases h1 : m.kind = 1
  · refine ⟨fun _ => ?_, fun x => absurd (.inl h1) x⟩
    rw [if_pos h1] at h0 ⊢
    rw [if_pos h1]
    by_cases h6 : 256 ≤ (s.chans[p * s.values.length + q]?.getD []).length
    · rw [if_pos h6] at h0; simp at h0
    have h6' : ¬ 256 ≤ (t.chans[p * s.values.length + q]?.getD []).length := by
      have : (chA t (p * s.values.length + q)).length ≤ (chA s (p * s.values.length + q)).length := by rw [e3]; exact List.length_filter_le _ _
      unfold chA at this; omega
    rw [if_neg h6, if_neg h6']
    refine ⟨rfl, ?_, ?_, fun j hj => ?_⟩
    · simp only [sendF]; rw [ht.v]
    · simp only [sendF]; rw [ht.c]
    · simp only [sendF, List.length_set] at hj
      simp only [chA, sendF, getD_set, cl, cl2]
      split
      · have := noM_app false m.val (chA s (p * s.values.length + q))
        simp only [Bool.false_eq_true, if_false] at this
        unfold chA at this e3
        rw [this, e3]
      · exact ht.ch j hj
  · have h2 : m.kind = 2 := by omega
    rw [if_neg h1] at h0 ⊢
    rw [if_neg h1]
    unfold delF at h0 ⊢
    cases hh : s.chans[p * s.values.length + q]?.getD [] with
    | nil => rw [hh] at h0; simp at h0
    | cons y r =>
      obtain ⟨b, x⟩ := y
      have hcA : chA s (p * s.values.length + q) = (b, x) :: r := hh
      cases b with
      | true =>
        have hn : ¬ plainM s m := by
          rintro (h | ⟨_, v, r2, h⟩)
          · exact h1 h
          · rw [hp, hq] at h; simp only [Int.toNat_natCast] at h; rw [hcA] at h; cases h
        refine ⟨fun x => absurd x hn, fun _ => ?_⟩
        have hcl : r.length ≤ k := by
          cases hc : s.chans[p * s.values.length + q]? with
          | none => simp [hc] at hh
          | some z => have := h.wh.chk z (List.mem_of_getElem? hc); simp [hc] at hh; rw [hh] at this; simp at this; omega
        have hi1 := inv_putC (j := p * s.values.length + q) h hcl
        have t1 : Twin (putC s (p * s.values.length + q) r) t := by
          refine ⟨ht.v, ht.c, fun j hj => ?_⟩
          have hj : j < s.values.length * s.values.length := hj
          rw [ht.ch j hj]
          simp only [chA, putC, getD_set, cl]
          split
          · rename_i he; rw [← he.1, hh, noM_cons]; rfl
          · rfl
        have t2 := twin_mark hi1 (p := q) hqn t1
        exact ⟨t2.v, t2.c, t2.ch⟩
      | false =>
        refine ⟨fun _ => ?_, fun z => absurd (.inr ⟨h2, x, r, by rw [hp, hq]; exact hcA⟩) z⟩
        have e4 : t.chans[p * s.values.length + q]?.getD [] = (false, x) :: noM r := by
          have := e3; rw [hcA, noM_cons] at this; exact this
        rw [e4]
        refine ⟨rfl, ?_, ?_, fun j hj => ?_⟩
        · simp only [recvF, putC]; rw [ht.v]
        · simp only [recvF, putC]; rw [ht.c]
        · simp only [recvF, putC, List.length_set] at hj
          simp only [chA, recvF, putC, getD_set, cl, cl2]
          split
          · rfl
          · exact ht.ch j hj
end Pv

set_option maxRecDepth 100000
set_option linter.unusedVariables false
set_option linter.unusedSimpArgs false
namespace Pv
open Go
def codesRow (l : Lab) (cs : List Int) (a : Nat) : List V := [.sl l 1 (cs.map encU), .sc (.int .i64 a)]
structure Codes (l : Lab) (cs : List Int) (a : Nat) : Prop where
  hl : l ≠ .own
  le : a ≤ cs.length
  sm : cs.length < 4611686018427387904
  wf : ∀ x ∈ cs, 0 ≤ x ∧ x ≤ 255
theorem dn0 {l : Lab} : Lab.dn 0 l = l := by cases l <;> simp [Lab.dn]
theorem tmodN {c : Int} {n : Nat} (h : 0 ≤ c) : c.tmod n = ((c.toNat % n : Nat) : Int) := by
  obtain ⟨m, rfl⟩ : ∃ m : Nat, c = m := ⟨c.toNat, by omega⟩
  rw [Int.tmod_eq_emod_of_nonneg h]; simp
theorem left_ok {T : Nat → Option Fn} (h44 : T 44 = some c44) {l : Lab} {cs : List Int} {a : Nat} (hc : Codes l cs a) :
    EvF T 44 [] [.one (.ptr 10000 0)] [codesRow l cs a] (.one (.sc (.bool (decide (a < cs.length)))), [codesRow l cs a]) := by
  refine EvF.run h44 ?_
  simp -implicitDefEqProofs -dsimp only [go_sem, reduceIte, reduceCtorEq, Nat.reduceAdd, Nat.reduceMul, Nat.reduceSub, Nat.reduceDiv, Nat.reduceLT, Nat.reduceLeDiff, Nat.reduceEqDiff, Nat.reduceBEq, Nat.reduceBNe, Int.reduceToNat, Int.reduceEq, Int.reduceLT, Int.reduceLE, Int.reduceNeg, c44, codesRow, dn0, hc.hl]
theorem next_ok {T : Nat → Option Fn} (h44 : T 44 = some c44) (h30 : T 30 = some c30) {l : Lab} {cs : List Int} {a : Nat} (hc : Codes l cs a) {n : Nat} (hn : 1 ≤ n) :
    ∃ x a' : Nat, EvF T 30 [] [.one (.ptr 10000 0), .one (.sc (.int .i64 n))] [codesRow l cs a] (.one (.sc (.int .i64 x)), [codesRow l cs a']) ∧ x < n ∧ Codes l cs a' := by
  by_cases h : a < cs.length
  · have e1 : cs[a]? = some cs[a] := by simp [h]
    have hw := hc.wf cs[a] (by simp)
    have hsm := hc.sm
    refine ⟨cs[a].toNat % n, a + 1, ?_, Nat.mod_lt _ (by omega), ⟨hc.hl, h, hc.sm, hc.wf⟩⟩
    refine EvF.run h30 ?_
    simp -implicitDefEqProofs -dsimp only [go_sem, reduceIte, reduceCtorEq, Nat.reduceAdd, Nat.reduceMul, Nat.reduceSub, Nat.reduceDiv, Nat.reduceLT, Nat.reduceLeDiff, Nat.reduceEqDiff, Nat.reduceBEq, Nat.reduceBNe, Int.reduceToNat, Int.reduceEq, Int.reduceLT, Int.reduceLE, Int.reduceNeg, c30, codesRow, dn0, hc.hl]
    have hlft := left_ok h44 hc
    refine CallF.intro hlft ?_
    have w1 : IntKind.i64.wrap (((a + 1 : Nat) : Int) - 1) = (a : Int) := by rw [w64 (by omega) (by omega)]; omega
    have w2 : IntKind.i64.wrap cs[a] = cs[a] := w64 (by omega) (by omega)
    have hn0 : ((n : Int) = 0) = False := eq_false (by omega)
    simp -implicitDefEqProofs -dsimp only [go_sem, reduceIte, reduceCtorEq, Nat.reduceAdd, Nat.reduceMul, Nat.reduceSub, Nat.reduceDiv, Nat.reduceLT, Nat.reduceLeDiff, Nat.reduceEqDiff, Nat.reduceBEq, Nat.reduceBNe, Int.reduceToNat, Int.reduceEq, Int.reduceLT, Int.reduceLE, Int.reduceNeg, c30, codesRow, dn0, hc.hl, h, wS (show a < 4611686018427387904 by omega), w1, w2, e1, hn0, tmodN hw.1]
  · refine ⟨0, a, ?_, by omega, hc⟩
    refine EvF.run h30 ?_
    simp -implicitDefEqProofs -dsimp only [go_sem, reduceIte, reduceCtorEq, Nat.reduceAdd, Nat.reduceMul, Nat.reduceSub, Nat.reduceDiv, Nat.reduceLT, Nat.reduceLeDiff, Nat.reduceEqDiff, Nat.reduceBEq, Nat.reduceBNe, Int.reduceToNat, Int.reduceEq, Int.reduceLT, Int.reduceLE, Int.reduceNeg, c30, codesRow, dn0, hc.hl]
    have hlft := left_ok h44 hc
    refine CallF.intro hlft ?_
    simp -implicitDefEqProofs -dsimp only [go_sem, reduceIte, reduceCtorEq, Nat.reduceAdd, Nat.reduceMul, Nat.reduceSub, Nat.reduceDiv, Nat.reduceLT, Nat.reduceLeDiff, Nat.reduceEqDiff, Nat.reduceBEq, Nat.reduceBNe, Int.reduceToNat, Int.reduceEq, Int.reduceLT, Int.reduceLE, Int.reduceNeg, c30, codesRow, dn0, hc.hl, h]
theorem int_ok {T : Nat → Option Fn} (h44 : T 44 = some c44) (h30 : T 30 = some c30) (h45 : T 45 = some c45) {l : Lab} {cs : List Int} {a : Nat} (hc : Codes l cs a) :
    ∃ (x : Int) (a' : Nat), EvF T 45 [] [.one (.ptr 10000 0)] [codesRow l cs a] (.one (.sc (.int .i64 x)), [codesRow l cs a']) ∧ Codes l cs a' := by
  obtain ⟨x1, b1, n1, l1, hc1⟩ := next_ok h44 h30 hc (n := 6) (by omega)
  by_cases h5 : x1 = 5
  · obtain ⟨x2, b2, n2, l2, hc2⟩ := next_ok h44 h30 hc1 (n := 10) (by omega)
    obtain ⟨y, hy⟩ : ∃ y, (((((((((((List.replicate 10 (0 : Int)).set 0 9223372036854775807).set 1 (-9223372036854775808)).set 2 2147483648).set 3 (-1)).set 4 63).set 5 64).set 6 (-65)).set 7 127).set 8 128).set 9 1099511627776)[x2]? = some y := ⟨_, List.getElem?_eq_getElem (by simp; omega)⟩
    refine ⟨y, b2, ?_, hc2⟩
    refine EvF.run h45 ?_
    simp -implicitDefEqProofs -dsimp only [go_sem, reduceIte, reduceCtorEq, Nat.reduceAdd, Nat.reduceMul, Nat.reduceSub, Nat.reduceDiv, Nat.reduceLT, Nat.reduceLeDiff, Nat.reduceEqDiff, Nat.reduceBEq, Nat.reduceBNe, Int.reduceToNat, Int.reduceEq, Int.reduceLT, Int.reduceLE, Int.reduceNeg, c45, codesRow, dn0, hc.hl]
    refine CallF.intro n1 ?_
    have e5 : ((x1 : Int) = 5) = True := eq_true (by omega)
    simp -implicitDefEqProofs -dsimp only [go_sem, reduceIte, reduceCtorEq, Nat.reduceAdd, Nat.reduceMul, Nat.reduceSub, Nat.reduceDiv, Nat.reduceLT, Nat.reduceLeDiff, Nat.reduceEqDiff, Nat.reduceBEq, Nat.reduceBNe, Int.reduceToNat, Int.reduceEq, Int.reduceLT, Int.reduceLE, Int.reduceNeg, c45, codesRow, dn0, hc.hl, e5]
    refine CallF.intro n2 ?_
    have hlt : (x2 < 10) = True := eq_true (by omega)
    simp -implicitDefEqProofs -dsimp only [go_sem, reduceIte, reduceCtorEq, Nat.reduceAdd, Nat.reduceMul, Nat.reduceSub, Nat.reduceDiv, Nat.reduceLT, Nat.reduceLeDiff, Nat.reduceEqDiff, Nat.reduceBEq, Nat.reduceBNe, Int.reduceToNat, Int.reduceEq, Int.reduceLT, Int.reduceLE, Int.reduceNeg, c45, codesRow, dn0, hc.hl, hlt, hy]
  · obtain ⟨x2, b2, n2, l2, hc2⟩ := next_ok h44 h30 hc1 (n := 12) (by omega)
    refine ⟨IntKind.i64.wrap (x2 - 2), b2, ?_, hc2⟩
    refine EvF.run h45 ?_
    simp -implicitDefEqProofs -dsimp only [go_sem, reduceIte, reduceCtorEq, Nat.reduceAdd, Nat.reduceMul, Nat.reduceSub, Nat.reduceDiv, Nat.reduceLT, Nat.reduceLeDiff, Nat.reduceEqDiff, Nat.reduceBEq, Nat.reduceBNe, Int.reduceToNat, Int.reduceEq, Int.reduceLT, Int.reduceLE, Int.reduceNeg, c45, codesRow, dn0, hc.hl]
    refine CallF.intro n1 ?_
    have e5 : ((x1 : Int) = 5) = False := eq_false (by omega)
    simp -implicitDefEqProofs -dsimp only [go_sem, reduceIte, reduceCtorEq, Nat.reduceAdd, Nat.reduceMul, Nat.reduceSub, Nat.reduceDiv, Nat.reduceLT, Nat.reduceLeDiff, Nat.reduceEqDiff, Nat.reduceBEq, Nat.reduceBNe, Int.reduceToNat, Int.reduceEq, Int.reduceLT, Int.reduceLE, Int.reduceNeg, c45, codesRow, dn0, hc.hl, e5]
    refine CallF.intro n2 ?_
    simp -implicitDefEqProofs -dsimp only [go_sem, reduceIte, reduceCtorEq, Nat.reduceAdd, Nat.reduceMul, Nat.reduceSub, Nat.reduceDiv, Nat.reduceLT, Nat.reduceLeDiff, Nat.reduceEqDiff, Nat.reduceBEq, Nat.reduceBNe, Int.reduceToNat, Int.reduceEq, Int.reduceLT, Int.reduceLE, Int.reduceNeg, c45, codesRow, dn0, hc.hl]
end Pv
