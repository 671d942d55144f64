
import Derived.Test.YtkgdfkhhaankkaaPvAJ
set_option linter.all false
set_option linter.unusedVariables false
set_option linter.unusedSimpArgs false
namespace Pv
open Go
def Le (C D : Orc) : Prop := ∀ g io a e r, C g io a e = some r → D g io a e = some r
section
variable {C D : Orc} {cx : Cx}
theorem evCall_mono (h : Le C D) {s : St} {io : List Nat} {b : Nat} {mv : Bool} {f : O} {as : List O} {x : T × St × List (Nat × Nat)} (hc : evCall C cx s io b mv f as = some x) : evCall D cx s io b mv f as = some x := by
  unfold evCall at hc ⊢
  split at hc
  case h_2 => simp at hc
  rename_i g caps hf
  split at hc
  case h_2 => simp at hc
  rename_i hs ios hh hi
  simp only at hc
  split at hc
  case h_2 => simp at hc
  rename_i args ha
  split at hc
  · simp at hc
  rename_i hn
  split at hc
  case h_2 => simp at hc
  rename_i rows hr
  split at hc
  · simp at hc
  rename_i hn2
  split at hc
  case h_2 => simp at hc
  rename_i t rows' he
  simp only [hf, hh, hi, ha]
  rw [if_neg hn]
  simp only [hr]
  rw [if_neg hn2]
  rw [h _ _ _ _ _ he]
  exact hc
theorem evIns_mono (h : Le C D) {s : St} {k : K} {xs : List O} {x : T × St × List (Nat × Nat)} (hc : evIns C cx s k xs = some x) : evIns D cx s k xs = some x := by
  by_cases hk : k.isCall = true
  · cases k <;> simp [K.isCall] at hk
    cases xs with
    | nil => simp [evIns] at hc
    | cons f as => exact evCall_mono h hc
  · simp only [Bool.not_eq_true] at hk
    rw [evIns_noC hk] at hc ⊢
    exact hc
theorem evOp_mono (h : Le C D) {s : St} {i : Ins} {x : St × Fp} (hc : evOp C cx s i = some x) : evOp D cx s i = some x := by
  have key : ∀ gs, evDo C cx s i gs = some x → evDo D cx s i gs = some x := by
    intro gs hd
    unfold evDo at hd ⊢
    split at hd
    case h_2 => simp at hd
    rename_i t s' M he
    rw [evIns_mono h he]
    exact hd
  unfold evOp at hc ⊢
  split at hc
  · simp at hc
  rename_i hp
  rw [if_neg hp]
  split at hc
  · exact key _ hc
  · rename_i g w hg
    try simp only [hg]
    split at hc
    · rename_i b v hb
      try simp only [hb]
      split at hc
      · rename_i hbw; rw [if_pos hbw]; exact key _ hc
      · rename_i hbw; rw [if_neg hbw]; exact hc
    · exact hc
    · simp at hc
theorem evOps_mono (h : Le C D) : ∀ {is : List Ins} {s : St} {x : St × List Fp}, evOps C cx is s = some x → evOps D cx is s = some x
  | [], _, _, hc => hc
  | i :: is, s, x, hc => by
    unfold evOps at hc ⊢
    split at hc
    case h_2 => simp at hc
    rename_i s' f h1
    split at hc
    case h_2 => simp at hc
    rename_i s2 fs h2
    simp only [evOp_mono h h1, evOps_mono h h2]
    exact hc
theorem evDrw_mono (h : Le C D) : ∀ {is : List Ins} {hs : List Hint} {s : St} {x : List St × St}, evDrw C cx is hs s = some x → evDrw D cx is hs s = some x
  | [], [], _, _, hc => hc
  | [], _ :: _, _, _, hc => by simp [evDrw] at hc
  | _ :: _, [], _, _, hc => by simp [evDrw] at hc
  | i :: is, h1 :: hs, s, x, hc => by
    unfold evDrw at hc ⊢
    split at hc
    case h_2 => simp at hc
    rename_i o f e1
    split at hc
    case isFalse => simp at hc
    rename_i ht
    split at hc
    case h_2 => simp at hc
    rename_i os s' e2
    simp only [evOp_mono h e1, ht, if_true, evDrw_mono h e2]
    exact hc
theorem evCode_mono (h : Le C D) : ∀ {n m : Nat} {c : Cd} {s : St} {x : Ex × St}, n ≤ m → evCode C cx n c s = some x → evCode D cx m c s = some x
  | 0, _, _, _, _, _, hc => by simp [evCode] at hc
  | n + 1, 0, _, _, _, hn, _ => by omega
  | n + 1, m + 1, c, s, x, hn, hc => by
    have hn' : n ≤ m := by omega
    cases c with
    | skip => exact hc
    | ret => exact hc
    | exit id => exact hc
    | bad w => simp [evCode] at hc
    | reg ops live =>
      simp only [evCode] at hc ⊢
      split at hc
      case h_2 => simp at hc
      rename_i s' fs e
      simp only [evOps_mono h e]; exact hc
    | drw ops hs live =>
      simp only [evCode] at hc ⊢
      split at hc
      case h_2 => simp at hc
      rename_i s' fs e
      simp only [evDrw_mono h e]; exact hc
    | seq a b =>
      simp only [evCode] at hc ⊢
      split at hc
      · rename_i s' e
        simp only [evCode_mono h hn' e]; exact evCode_mono h hn' hc
      · rename_i r hr
        cases hx : evCode C cx n a s with
        | none => simp [hx] at hc
        | some y =>
          rw [hx] at hc
          simp only [Option.some.injEq] at hc
          subst hc
          rw [evCode_mono h hn' hx]
          obtain ⟨ex, s2⟩ := y
          cases ex with
          | nrm => exact absurd hx (hr s2)
          | exit id => rfl
          | ret => rfl
    | cond c a b =>
      simp only [evCode] at hc ⊢
      split at hc
      · exact evCode_mono h hn' hc
      · exact evCode_mono h hn' hc
      · simp at hc
    | block id b =>
      simp only [evCode] at hc ⊢
      cases hx : evCode C cx n b s with
      | none => simp [hx] at hc
      | some y => rw [hx] at hc; rw [evCode_mono h hn' hx]; exact hc
    | loop l b =>
      simp only [evCode] at hc ⊢
      cases hx : evCode C cx n b (norm (s.keep l)) with
      | none => simp [hx] at hc
      | some y =>
        rw [hx] at hc; rw [evCode_mono h hn' hx]
        obtain ⟨ex, s2⟩ := y
        cases ex with
        | nrm => exact evCode_mono h hn' hc
        | exit id => exact hc
        | ret => exact hc
    | clone x d sz bytes => exact hc
theorem evFn_mono (h : Le C D) {n m : Nat} (hn : n ≤ m) {fn : Fn} {io : List Nat} {args : List T} {ext : List (List V)} {x : T × List (List V)} (hc : evFn C n fn io args ext = some x) : evFn D m fn io args ext = some x := by
  unfold evFn at hc ⊢
  simp only at hc ⊢
  split at hc
  · simp at hc
  rename_i hg
  rw [if_neg hg]
  split at hc
  case h_2 => simp at hc
  rename_i s0 hs
  try simp only [hs]
  cases hx : evCode C ⟨fn.named, fn.io.map fun x => (x.1, x.2.1)⟩ n fn.code s0 with
  | none => simp [hx] at hc
  | some y => rw [hx] at hc; rw [evCode_mono h hn hx]; exact hc
end
theorem evN_mono (P : Nat → Option Fn) : ∀ {n m : Nat}, n ≤ m → Le (evN P n) (evN P m)
  | 0, _, _, _, _, _, _, _, hc => by simp [evN] at hc
  | n + 1, 0, hn, _, _, _, _, _, _ => by omega
  | n + 1, m + 1, hn, g, io, a, e, r, hc => by
    simp only [evN] at hc ⊢
    split at hc
    case h_2 => simp at hc
    rename_i fn hf
    try simp only [hf]
    exact evFn_mono (evN_mono P (by omega)) (by omega) hc
theorem EvF.at {P : Nat → Option Fn} {n f : Nat} {io : List Nat} {args : List T} {ext : List (List V)} {r : T × List (List V)} (h : evN P n f io args ext = some r) : EvF P f io args ext r :=
  ⟨n, fun m hm => evN_mono P hm _ _ _ _ _ h⟩
end Pv
