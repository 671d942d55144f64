
import Derived.Test.YtkgdfkhhaankkaaPvAH
set_option linter.all false
set_option maxRecDepth 100000
set_option linter.unusedVariables false
set_option linter.unusedSimpArgs false
namespace Pv
open Go
theorem EvF.runE {T : Nat → Option Fn} {f : Nat} {fn : Fn} {io : List Nat} {args : List Pv.T} {ext : List (List V)} {P : Pv.T × List (List V) → Prop} (hf : T f = some fn)
    (h : andThen (start fn io args ext) fun s0 => WC T ⟨fn.named, fn.io.map fun x => (x.1, x.2.1)⟩ fn.code s0 fun ex s => notExit ex = true ∧ ∃ r, fin fn ⟨fn.named, fn.io.map fun x => (x.1, x.2.1)⟩ ext s = some r ∧ P r) : ∃ r, EvF T f io args ext r ∧ P r := by
  obtain ⟨s0, h1, h2⟩ := andThen_ex h
  obtain ⟨ex, s2, ⟨n0, h3⟩, h4, r, h5, hP⟩ := WC.ev h2
  refine ⟨r, ?_, hP⟩
  refine EvF.of hf ⟨n0, fun n hn => ?_⟩
  unfold start req at h1
  split at h1
  case isFalse => simp at h1
  rename_i hc
  unfold evFn
  simp only
  rw [if_neg (by
    intro hh
    rcases hh with hh | hh | hh
    · exact hh hc.1
    · exact hh hc.2.1
    · exact Bool.noConfusion (hh.symm.trans hc.2.2))]
  rw [h1]
  simp only [h3 n n hn hn]
  unfold fin at h5
  cases hr : readAll s2 ⟨fn.named, fn.io.map fun x => (x.1, x.2.1)⟩ fn.results with
  | none => simp [hr, bo] at h5
  | some x =>
  simp only [hr, bo_some] at h5
  cases he : extRows x.2 0 (ext.take (ext.length - fn.io.length)) with
  | none => simp [he, bo] at h5
  | some e1 =>
  simp only [he, bo_some] at h5
  cases hi : ioOut x.2 fn.io (ext.drop (ext.length - fn.io.length)) with
  | none => simp [hi, bo] at h5
  | some e2 =>
  simp only [hi, bo_some] at h5
  unfold req at h5
  split at h5
  case isFalse => simp at h5
  rename_i hok
  obtain ⟨ts, s3⟩ := x
  cases ex with
  | exit id => simp [notExit] at h4
  | nrm => simp only [hr, he, hi, hok]; exact h5
  | ret => simp only [hr, he, hi, hok]; exact h5
set_option maxHeartbeats 16000000
theorem codes_ok {T : Nat → Option Fn} (h29 : T 29 = some c29) (cs : List Int) (hs : cs.length < 4611686018427387904) (hw : ∀ x ∈ cs, 0 ≤ x ∧ x ≤ 255) :
    EvF T 29 [] [.one (.sl .ro 1 (cs.map encU)), .one (.sc (.int .i64 160))] [] (.one (.ptr 20000 0), [codesRow .ro (cs.take 160) 0]) ∧ Codes .ro (cs.take 160) 0 := by
  refine ⟨?_, by simp, by simp, by simp; omega, fun x hx => hw x (List.mem_of_mem_take hx)⟩
  refine EvF.run h29 ?_
  simp -implicitDefEqProofs -dsimp only [go_sem, reduceIte, reduceCtorEq, Nat.reduceAdd, Nat.reduceMul, Nat.reduceSub, Nat.reduceDiv, Nat.reduceLT, Nat.reduceLeDiff, Nat.reduceEqDiff, Nat.reduceBEq, Nat.reduceBNe, Int.reduceToNat, Int.reduceEq, Int.reduceLT, Int.reduceLE, Int.reduceNeg, c29]
  by_cases h : (160 : Int) < cs.length
  · have h2 : ((160 : Int) ≤ cs.length) = True := eq_true (by omega)
    simp -implicitDefEqProofs -dsimp only [go_sem, reduceIte, reduceCtorEq, Nat.reduceAdd, Nat.reduceMul, Nat.reduceSub, Nat.reduceDiv, Nat.reduceLT, Nat.reduceLeDiff, Nat.reduceEqDiff, Nat.reduceBEq, Nat.reduceBNe, Int.reduceToNat, Int.reduceEq, Int.reduceLT, Int.reduceLE, Int.reduceNeg, c29, h, h2]
    rfl
  · have h3 : cs.take 160 = cs := List.take_of_length_le (by omega)
    simp -implicitDefEqProofs -dsimp only [go_sem, reduceIte, reduceCtorEq, Nat.reduceAdd, Nat.reduceMul, Nat.reduceSub, Nat.reduceDiv, Nat.reduceLT, Nat.reduceLeDiff, Nat.reduceEqDiff, Nat.reduceBEq, Nat.reduceBNe, Int.reduceToNat, Int.reduceEq, Int.reduceLT, Int.reduceLE, Int.reduceNeg, c29, h]
    rw [h3]; rfl
structure TabC (T : Nat → Option Fn) : Prop where
  h29 : T 29 = some c29
  h30 : T 30 = some c30
  h31 : T 31 = some c31
  h44 : T 44 = some c44
  h45 : T 45 = some c45
theorem moves_ok {T : Nat → Option Fn} (hT : TabC T) {l : Lab} {cs : List Int} {a : Nat} (hc : Codes l cs a) {n : Nat} (hn : 2 ≤ n) (hn4 : n ≤ 4) :
    ∃ r, EvF T 31 [] [.one (.ptr 10000 0), .one (.sc (.int .i64 n)), .one (.sc (.int .i64 50))] [codesRow l cs a] r ∧
      ∃ (ms : List Mv) (a' : Nat), r = (.one (.sl .own 4 (ms.map encM)), [codesRow l cs a']) ∧ ms.length ≤ 50 := by
  obtain ⟨h29, h30, h31, h44, h45⟩ := hT
  refine EvF.runE h31 ?_
  have hl := hc.hl
  simp -implicitDefEqProofs -dsimp only [go_sem, reduceIte, reduceCtorEq, Nat.reduceAdd, Nat.reduceMul, Nat.reduceSub, Nat.reduceDiv, Nat.reduceLT, Nat.reduceLeDiff, Nat.reduceEqDiff, Nat.reduceBEq, Nat.reduceBNe, Int.reduceToNat, Int.reduceEq, Int.reduceLT, Int.reduceLE, Int.reduceNeg, c31, codesRow, hl]
  refine LoopW.intro (fun m t => ∃ (ms : List Mv) (a : Nat), m + ms.length = 50 ∧ Codes l cs a ∧ t = [(0, .one (.ptr 10000 0), 0), (1, .one (.sc (.int .i64 n)), 0), (2, .one (.sc (.int .i64 50)), 0), (7, .one (.sl .own 4 (ms.map encM)), 0), (10000, .agg (codesRow l cs a), 0)]) ?_ 50 ?_
  case refine_2 => simp -implicitDefEqProofs -dsimp only [go_sem, reduceIte, reduceCtorEq, Nat.reduceAdd, Nat.reduceMul, Nat.reduceSub, Nat.reduceDiv, Nat.reduceLT, Nat.reduceLeDiff, Nat.reduceEqDiff, Nat.reduceBEq, Nat.reduceBNe, Int.reduceToNat, Int.reduceEq, Int.reduceLT, Int.reduceLE, Int.reduceNeg, c31]; exact ⟨[], a, rfl, hc, rfl⟩
  rintro m t ⟨ms, b, hm, hb, rfl⟩
  simp -implicitDefEqProofs -dsimp only [go_sem, reduceIte, reduceCtorEq, Nat.reduceAdd, Nat.reduceMul, Nat.reduceSub, Nat.reduceDiv, Nat.reduceLT, Nat.reduceLeDiff, Nat.reduceEqDiff, Nat.reduceBEq, Nat.reduceBNe, Int.reduceToNat, Int.reduceEq, Int.reduceLT, Int.reduceLE, Int.reduceNeg, c31, codesRow, hl]
  by_cases h50 : ms.length < 50
  case neg =>
    have h50' : ((ms.length : Int) < 50) = False := eq_false (by omega)
    simp -implicitDefEqProofs -dsimp only [go_sem, reduceIte, reduceCtorEq, Nat.reduceAdd, Nat.reduceMul, Nat.reduceSub, Nat.reduceDiv, Nat.reduceLT, Nat.reduceLeDiff, Nat.reduceEqDiff, Nat.reduceBEq, Nat.reduceBNe, Int.reduceToNat, Int.reduceEq, Int.reduceLT, Int.reduceLE, Int.reduceNeg, c31, h50']
    refine ⟨_, rfl, ms, b, rfl, by omega⟩
  have h50' : ((ms.length : Int) < 50) = True := eq_true (by omega)
  simp -implicitDefEqProofs -dsimp only [go_sem, reduceIte, reduceCtorEq, Nat.reduceAdd, Nat.reduceMul, Nat.reduceSub, Nat.reduceDiv, Nat.reduceLT, Nat.reduceLeDiff, Nat.reduceEqDiff, Nat.reduceBEq, Nat.reduceBNe, Int.reduceToNat, Int.reduceEq, Int.reduceLT, Int.reduceLE, Int.reduceNeg, c31, codesRow, hl, h50']
  refine CallF.intro (left_ok h44 hb) ?_
  by_cases hbl : b < cs.length
  case neg =>
    simp -implicitDefEqProofs -dsimp only [go_sem, reduceIte, reduceCtorEq, Nat.reduceAdd, Nat.reduceMul, Nat.reduceSub, Nat.reduceDiv, Nat.reduceLT, Nat.reduceLeDiff, Nat.reduceEqDiff, Nat.reduceBEq, Nat.reduceBNe, Int.reduceToNat, Int.reduceEq, Int.reduceLT, Int.reduceLE, Int.reduceNeg, c31, codesRow, dn0, hl, hbl]
    refine ⟨_, rfl, ms, b, rfl, by omega⟩
  simp -implicitDefEqProofs -dsimp only [go_sem, reduceIte, reduceCtorEq, Nat.reduceAdd, Nat.reduceMul, Nat.reduceSub, Nat.reduceDiv, Nat.reduceLT, Nat.reduceLeDiff, Nat.reduceEqDiff, Nat.reduceBEq, Nat.reduceBNe, Int.reduceToNat, Int.reduceEq, Int.reduceLT, Int.reduceLE, Int.reduceNeg, c31, codesRow, dn0, hl, hbl]
  obtain ⟨k, b1, n1, l1, hb1⟩ := next_ok h44 h30 hb (n := 16) (by omega)
  refine CallF.intro n1 ?_
  simp -implicitDefEqProofs -dsimp only [go_sem, reduceIte, reduceCtorEq, Nat.reduceAdd, Nat.reduceMul, Nat.reduceSub, Nat.reduceDiv, Nat.reduceLT, Nat.reduceLeDiff, Nat.reduceEqDiff, Nat.reduceBEq, Nat.reduceBNe, Int.reduceToNat, Int.reduceEq, Int.reduceLT, Int.reduceLE, Int.reduceNeg, c31, codesRow, dn0, hl]
  obtain ⟨p, b2, n2, l2, hb2⟩ := next_ok h44 h30 hb1 (n := n) (by omega)
  refine CallF.intro n2 ?_
  have wn : IntKind.i64.wrap ((n : Int) - 1) = ((n - 1 : Nat) : Int) := by rw [w64 (by omega) (by omega)]; omega
  have mx : ((1 : Int) > ((n - 1 : Nat) : Int)) = False := eq_false (by omega)
  have mx2 : (((n - 1 : Nat) : Int) < (1 : Int)) = False := eq_false (by omega)
  simp -implicitDefEqProofs -dsimp only [go_sem, reduceIte, reduceCtorEq, Nat.reduceAdd, Nat.reduceMul, Nat.reduceSub, Nat.reduceDiv, Nat.reduceLT, Nat.reduceLeDiff, Nat.reduceEqDiff, Nat.reduceBEq, Nat.reduceBNe, Int.reduceToNat, Int.reduceEq, Int.reduceLT, Int.reduceLE, Int.reduceNeg, c31, codesRow, dn0, hl, wn, mx, mx2]
  obtain ⟨q, b3, n3, l3, hb3⟩ := next_ok h44 h30 hb2 (n := n - 1) (by omega)
  refine CallF.intro n3 ?_
  have hn0 : ((n : Int) = 0) = False := eq_false (by omega)
  simp -implicitDefEqProofs -dsimp only [go_sem, reduceIte, reduceCtorEq, Nat.reduceAdd, Nat.reduceMul, Nat.reduceSub, Nat.reduceDiv, Nat.reduceLT, Nat.reduceLeDiff, Nat.reduceEqDiff, Nat.reduceBEq, Nat.reduceBNe, Int.reduceToNat, Int.reduceEq, Int.reduceLT, Int.reduceLE, Int.reduceNeg, c31, codesRow, dn0, hl, hn0]
  have happ : ((ms.length + 1) * 32 ≤ 2 ^ 47) = True := eq_true (by omega)
  by_cases k6 : k < 6
  · have k6' : ((k : Int) < 6) = True := eq_true (by omega)
    simp -implicitDefEqProofs -dsimp only [go_sem, reduceIte, reduceCtorEq, Nat.reduceAdd, Nat.reduceMul, Nat.reduceSub, Nat.reduceDiv, Nat.reduceLT, Nat.reduceLeDiff, Nat.reduceEqDiff, Nat.reduceBEq, Nat.reduceBNe, Int.reduceToNat, Int.reduceEq, Int.reduceLT, Int.reduceLE, Int.reduceNeg, c31, codesRow, dn0, hl, k6']
    obtain ⟨x, b4, n4, hb4⟩ := int_ok h44 h30 h45 hb3
    refine CallF.intro n4 ?_
    simp -implicitDefEqProofs -dsimp only [go_sem, reduceIte, reduceCtorEq, Nat.reduceAdd, Nat.reduceMul, Nat.reduceSub, Nat.reduceDiv, Nat.reduceLT, Nat.reduceLeDiff, Nat.reduceEqDiff, Nat.reduceBEq, Nat.reduceBNe, Int.reduceToNat, Int.reduceEq, Int.reduceLT, Int.reduceLE, Int.reduceNeg, c31, codesRow, dn0, hl, happ]
    exact ⟨m - 1, by omega, _, b4, by simp; omega, hb4, rfl⟩
  have k6' : ((k : Int) < 6) = False := eq_false (by omega)
  by_cases k14 : k < 14
  · have k14' : ((k : Int) < 14) = True := eq_true (by omega)
    simp -implicitDefEqProofs -dsimp only [go_sem, reduceIte, reduceCtorEq, Nat.reduceAdd, Nat.reduceMul, Nat.reduceSub, Nat.reduceDiv, Nat.reduceLT, Nat.reduceLeDiff, Nat.reduceEqDiff, Nat.reduceBEq, Nat.reduceBNe, Int.reduceToNat, Int.reduceEq, Int.reduceLT, Int.reduceLE, Int.reduceNeg, c31, codesRow, dn0, hl, k6', k14', happ]
    exact ⟨m - 1, by omega, _, b3, by simp; omega, hb3, rfl⟩
  have k14' : ((k : Int) < 14) = False := eq_false (by omega)
  by_cases ke : k = 14
  · have ke' : ((k : Int) = 14) = True := eq_true (by omega)
    simp -implicitDefEqProofs -dsimp only [go_sem, reduceIte, reduceCtorEq, Nat.reduceAdd, Nat.reduceMul, Nat.reduceSub, Nat.reduceDiv, Nat.reduceLT, Nat.reduceLeDiff, Nat.reduceEqDiff, Nat.reduceBEq, Nat.reduceBNe, Int.reduceToNat, Int.reduceEq, Int.reduceLT, Int.reduceLE, Int.reduceNeg, c31, codesRow, dn0, hl, k6', k14', ke', happ]
    exact ⟨m - 1, by omega, _, b3, by simp; omega, hb3, rfl⟩
  have ke' : ((k : Int) = 14) = False := eq_false (by omega)
  simp -implicitDefEqProofs -dsimp only [go_sem, reduceIte, reduceCtorEq, Nat.reduceAdd, Nat.reduceMul, Nat.reduceSub, Nat.reduceDiv, Nat.reduceLT, Nat.reduceLeDiff, Nat.reduceEqDiff, Nat.reduceBEq, Nat.reduceBNe, Int.reduceToNat, Int.reduceEq, Int.reduceLT, Int.reduceLE, Int.reduceNeg, c31, codesRow, dn0, hl, k6', k14', ke', happ]
  obtain ⟨x, b4, n4, hb4⟩ := int_ok h44 h30 h45 hb3
  refine CallF.intro n4 ?_
  simp -implicitDefEqProofs -dsimp only [go_sem, reduceIte, reduceCtorEq, Nat.reduceAdd, Nat.reduceMul, Nat.reduceSub, Nat.reduceDiv, Nat.reduceLT, Nat.reduceLeDiff, Nat.reduceEqDiff, Nat.reduceBEq, Nat.reduceBNe, Int.reduceToNat, Int.reduceEq, Int.reduceLT, Int.reduceLE, Int.reduceNeg, c31, codesRow, dn0, hl]
  obtain ⟨y, b5, n5, hb5⟩ := int_ok h44 h30 h45 hb4
  refine CallF.intro n5 ?_
  simp -implicitDefEqProofs -dsimp only [go_sem, reduceIte, reduceCtorEq, Nat.reduceAdd, Nat.reduceMul, Nat.reduceSub, Nat.reduceDiv, Nat.reduceLT, Nat.reduceLeDiff, Nat.reduceEqDiff, Nat.reduceBEq, Nat.reduceBNe, Int.reduceToNat, Int.reduceEq, Int.reduceLT, Int.reduceLE, Int.reduceNeg, c31, codesRow, dn0, hl]
  obtain ⟨z, b6, n6, hb6⟩ := int_ok h44 h30 h45 hb5
  refine CallF.intro n6 ?_
  simp -implicitDefEqProofs -dsimp only [go_sem, reduceIte, reduceCtorEq, Nat.reduceAdd, Nat.reduceMul, Nat.reduceSub, Nat.reduceDiv, Nat.reduceLT, Nat.reduceLeDiff, Nat.reduceEqDiff, Nat.reduceBEq, Nat.reduceBNe, Int.reduceToNat, Int.reduceEq, Int.reduceLT, Int.reduceLE, Int.reduceNeg, c31, codesRow, dn0, hl, happ]
  exact ⟨m - 1, by omega, _, b6, by simp; omega, hb6, rfl⟩
end Pv

set_option maxRecDepth 100000
set_option linter.unusedVariables false
set_option linter.unusedSimpArgs false
namespace Pv
open Go
set_option maxHeartbeats 16000000
theorem begin_ok {T : Nat → Option Fn} (hT : TabC T) (h14 : T 14 = some c14) (vs cs : List Int) (hv : vs.length < 4611686018427387904) (hs : cs.length < 4611686018427387904) (hw : ∀ x ∈ cs, 0 ≤ x ∧ x ≤ 255) :
    ∃ r, EvF T 14 [] [.one (.sl .ro 1 (vs.map encI)), .one (.sl .ro 1 (cs.map encU))] [] r ∧
      ∃ (v : List Int) (ms : List Mv), r = (.tup [.one (.sl .own 1 (v.map encI)), .one (.sl .own 4 (ms.map encM))], []) ∧ 2 ≤ v.length ∧ v.length ≤ 4 ∧ ms.length ≤ 50 := by
  obtain ⟨n1, hc⟩ := codes_ok hT.h29 cs hs hw
  refine EvF.runE h14 ?_
  simp -implicitDefEqProofs -dsimp only [go_sem, reduceIte, reduceCtorEq, Nat.reduceAdd, Nat.reduceMul, Nat.reduceSub, Nat.reduceDiv, Nat.reduceLT, Nat.reduceLeDiff, Nat.reduceEqDiff, Nat.reduceBEq, Nat.reduceBNe, Int.reduceToNat, Int.reduceEq, Int.reduceLT, Int.reduceLE, Int.reduceNeg, c14]
  refine CallF.intro n1 ?_
  simp -implicitDefEqProofs -dsimp only [go_sem, reduceIte, reduceCtorEq, Nat.reduceAdd, Nat.reduceMul, Nat.reduceSub, Nat.reduceDiv, Nat.reduceLT, Nat.reduceLeDiff, Nat.reduceEqDiff, Nat.reduceBEq, Nat.reduceBNe, Int.reduceToNat, Int.reduceEq, Int.reduceLT, Int.reduceLE, Int.reduceNeg, c14, codesRow]
  obtain ⟨x, b, n2, l2, hb⟩ := next_ok hT.h44 hT.h30 hc (n := 3) (by omega)
  refine CallF.intro n2 ?_
  have w1 : IntKind.i64.wrap (2 + (x : Int)) = ((2 + x : Nat) : Int) := by rw [w64 (by omega) (by omega)]; omega
  simp -implicitDefEqProofs -dsimp only [go_sem, reduceIte, reduceCtorEq, Nat.reduceAdd, Nat.reduceMul, Nat.reduceSub, Nat.reduceDiv, Nat.reduceLT, Nat.reduceLeDiff, Nat.reduceEqDiff, Nat.reduceBEq, Nat.reduceBNe, Int.reduceToNat, Int.reduceEq, Int.reduceLT, Int.reduceLE, Int.reduceNeg, c14, codesRow, w1]
  refine LoopW.intro (fun m t => ∃ (o : List Int), m + o.length = 2 + x ∧ t = [(0, .one (.sl .ro 1 (vs.map encI)), 0), (6, .one (.ptr 5012 0), 0), (7, .one (.sc (.int .i64 ((2 + x : Nat) : Int))), 0), (8, .one (.sl .own 1 (o.map encI)), 0), (9, .one (.sc (.int .i64 o.length)), 0), (5012, .agg (codesRow .ro (cs.take 160) b), 0)]) ?_ (2 + x) ?_
  case refine_2 => simp -implicitDefEqProofs -dsimp only [go_sem, reduceIte, reduceCtorEq, Nat.reduceAdd, Nat.reduceMul, Nat.reduceSub, Nat.reduceDiv, Nat.reduceLT, Nat.reduceLeDiff, Nat.reduceEqDiff, Nat.reduceBEq, Nat.reduceBNe, Int.reduceToNat, Int.reduceEq, Int.reduceLT, Int.reduceLE, Int.reduceNeg, c14]; exact ⟨[], rfl, rfl⟩
  rintro m t ⟨o, ho, rfl⟩
  simp -implicitDefEqProofs -dsimp only [go_sem, reduceIte, reduceCtorEq, Nat.reduceAdd, Nat.reduceMul, Nat.reduceSub, Nat.reduceDiv, Nat.reduceLT, Nat.reduceLeDiff, Nat.reduceEqDiff, Nat.reduceBEq, Nat.reduceBNe, Int.reduceToNat, Int.reduceEq, Int.reduceLT, Int.reduceLE, Int.reduceNeg, c14, codesRow]
  by_cases h : o.length < 2 + x
  · have hw10 : IntKind.i64.wrap (10 * (o.length : Int)) = 10 * (o.length : Int) := w64 (by omega) (by omega)
    have happ : ((o.length + 1) * 8 ≤ 2 ^ 47) = True := eq_true (by omega)
    by_cases hi : o.length < vs.length
    · have e1 : vs[o.length]? = some vs[o.length] := by simp [hi]
      simp -implicitDefEqProofs -dsimp only [go_sem, reduceIte, reduceCtorEq, Nat.reduceAdd, Nat.reduceMul, Nat.reduceSub, Nat.reduceDiv, Nat.reduceLT, Nat.reduceLeDiff, Nat.reduceEqDiff, Nat.reduceBEq, Nat.reduceBNe, Int.reduceToNat, Int.reduceEq, Int.reduceLT, Int.reduceLE, Int.reduceNeg, c14, h, hi, e1, hw10, happ, wS (show o.length < 4611686018427387904 by omega)]
      refine ⟨m - 1, by omega, o ++ [vs[o.length]], by simp; omega, ?_⟩
      simp [codesRow]
    · simp -implicitDefEqProofs -dsimp only [go_sem, reduceIte, reduceCtorEq, Nat.reduceAdd, Nat.reduceMul, Nat.reduceSub, Nat.reduceDiv, Nat.reduceLT, Nat.reduceLeDiff, Nat.reduceEqDiff, Nat.reduceBEq, Nat.reduceBNe, Int.reduceToNat, Int.reduceEq, Int.reduceLT, Int.reduceLE, Int.reduceNeg, c14, h, hi, hw10, happ, wS (show o.length < 4611686018427387904 by omega)]
      refine ⟨m - 1, by omega, o ++ [10 * (o.length : Int)], by simp; omega, ?_⟩
      simp [codesRow]
  · simp -implicitDefEqProofs -dsimp only [go_sem, reduceIte, reduceCtorEq, Nat.reduceAdd, Nat.reduceMul, Nat.reduceSub, Nat.reduceDiv, Nat.reduceLT, Nat.reduceLeDiff, Nat.reduceEqDiff, Nat.reduceBEq, Nat.reduceBNe, Int.reduceToNat, Int.reduceEq, Int.reduceLT, Int.reduceLE, Int.reduceNeg, c14, codesRow, h]
    obtain ⟨r, n3, ms, b3, rfl, hms⟩ := moves_ok hT hb (n := 2 + x) (by omega) (by omega)
    refine CallF.intro n3 ?_
    simp -implicitDefEqProofs -dsimp only [go_sem, reduceIte, reduceCtorEq, Nat.reduceAdd, Nat.reduceMul, Nat.reduceSub, Nat.reduceDiv, Nat.reduceLT, Nat.reduceLeDiff, Nat.reduceEqDiff, Nat.reduceBEq, Nat.reduceBNe, Int.reduceToNat, Int.reduceEq, Int.reduceLT, Int.reduceLE, Int.reduceNeg, c14, codesRow]
    refine ⟨_, rfl, o, ms, rfl, by omega, by omega, hms⟩
end Pv
