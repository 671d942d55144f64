/- The statement MarkerUnseen holds: for every input the law returns true, and the arguments read as before. No condition is asked. -/
import Derived.Orders
import Derived.Test.YtkgdfkhhaankkaaChecked
import Derived.Eval
import Derived.KernelRfl
import Derived.Below
import Derived.ChangeSlices
import Derived.WideShapes
import Derived.Carry
import Derived.SizedLaws
import Derived.Test.YtkgdfkhhaankkaaRows
import Derived.WalkKit
import Derived.ProofKit
import Derived.OpenShut
import Derived.ShutString
import Derived.ChangeOld
import Derived.Test.YtkgdfkhhaankkaaPvAN
set_option linter.all false
set_option linter.unusedVariables false
set_option linter.unusedSimpArgs false
namespace Pv
open Go
def cL (hs : List Hint) (os : List St) (s0 : St) (L : Nat → Bool) : Nat → Nat → Option Slot
  | 0, k => s0.get k
  | m + 1, k => match hs[m]?, os[m]? with
    | some h, some o => if L m = true ∧ k ∈ h.w then o.get k else cL hs os s0 L m k
    | _, _ => cL hs os s0 L m k
theorem cL_succ {hs : List Hint} {os : List St} {s0 : St} {L : Nat → Bool} {m : Nat} {h : Hint} {o : St} (h1 : hs[m]? = some h) (h2 : os[m]? = some o) (k : Nat) :
    cL hs os s0 L (m + 1) k = if L m = true ∧ k ∈ h.w then o.get k else cL hs os s0 L m k := by
  simp only [cL, h1, h2]
theorem cL_congr {hs : List Hint} {os : List St} {s0 : St} {L L' : Nat → Bool} : ∀ (m k : Nat), (∀ j, j < m → L j = L' j) → cL hs os s0 L m k = cL hs os s0 L' m k
  | 0, k, _ => rfl
  | m + 1, k, h => by
    simp only [cL, cL_congr m k (fun j hj => h j (by omega)), h m (by omega)]
theorem cL_shift {h : Hint} {hs : List Hint} {o : St} {os : List St} {s0 : St} : ∀ (m k : Nat), cL (h :: hs) (o :: os) s0 (fun _ => true) (m + 1) k = cL hs os (s0.mix h.w o) (fun _ => true) m k
  | 0, k => by
    simp only [cL, List.getElem?_cons_zero, true_and, get_mix]
  | m + 1, k => by
    have := cL_shift (h := h) (hs := hs) (o := o) (os := os) (s0 := s0) m k
    rw [show cL (h :: hs) (o :: os) s0 (fun _ => true) (m + 1 + 1) k = (match (h :: hs)[m + 1]?, (o :: os)[m + 1]? with
      | some h', some o' => if (fun _ : Nat => true) (m + 1) = true ∧ k ∈ h'.w then o'.get k else cL (h :: hs) (o :: os) s0 (fun _ => true) (m + 1) k
      | _, _ => cL (h :: hs) (o :: os) s0 (fun _ => true) (m + 1) k) from rfl, this]
    simp only [List.getElem?_cons_succ, true_and]
    conv => rhs; unfold cL
    simp only [true_and]
section
variable {P : Program} {cx : Cx} {C : Orc}
structure At (C : Orc) (cx : Cx) (i : Ins) (h : Hint) (o : St) (c : Nat → Option Slot) : Prop where
  ex : ∃ (s : St) (f : Fp), (∀ k, s.get k = c k) ∧ evOp C cx (s.restr (h.kd ++ h.ks)) i = some (o, f) ∧ (∀ y ∈ f.wr, y.1 ∈ h.w)
  soft : ∀ k ∈ h.soft, simO (c k) (o.get k) = true
  ks : h.ks = [] ∨ softLoad i o = true
theorem evDrw_ok : ∀ (is : List Ins) (hs : List Hint) (s : St) (os : List St) (s' : St), evDrw C cx is hs s = some (os, s') → is.length = hs.length ∧ os.length = hs.length ∧ (∀ k, s'.get k = cL hs os s (fun _ => true) hs.length k) ∧
    ∀ (m : Nat) (i : Ins) (h : Hint) (o : St), is[m]? = some i → hs[m]? = some h → os[m]? = some o → At C cx i h o (cL hs os s (fun _ => true) m)
  | [], [], s, os, s', h => by
    simp only [evDrw, Option.some.injEq, Prod.mk.injEq] at h
    obtain ⟨rfl, rfl⟩ := h
    exact ⟨rfl, rfl, fun k => rfl, by simp⟩
  | [], _ :: _, s, os, s', h => by simp [evDrw] at h
  | _ :: _, [], s, os, s', h => by simp [evDrw] at h
  | i :: is, h0 :: hs, s, os, s', h => by
    simp only [evDrw] at h
    split at h
    case h_2 => simp at h
    rename_i o f hop
    split at h
    case isFalse => simp at h
    rename_i hc
    split at h
    case h_2 => simp at h
    rename_i os' s1 hrest
    simp only [Option.some.injEq, Prod.mk.injEq] at h
    obtain ⟨rfl, rfl⟩ := h
    simp only [Bool.and_eq_true, Bool.or_eq_true, List.isEmpty_iff, List.all_eq_true, List.contains_iff_mem] at hc
    obtain ⟨⟨hc1, hc2⟩, hc3⟩ := hc
    obtain ⟨k1, k2, k3, k4⟩ := evDrw_ok is hs _ _ _ hrest
    refine ⟨by simp [k1], by simp [k2], fun k => ?_, fun m i' h' o' hi hh ho => ?_⟩
    · rw [k3, List.length_cons, cL_shift]
    · cases m with
      | zero =>
        simp only [List.getElem?_cons_zero, Option.some.injEq] at hi hh ho
        subst hi; subst hh; subst ho
        exact ⟨⟨s, f, fun k => rfl, hop, hc1⟩, hc2, hc3⟩
      | succ m =>
        have := k4 m i' h' o' (by simpa using hi) (by simpa using hh) (by simpa using ho)
        have e : (cL (h0 :: hs) (o :: os') s (fun _ => true) (m + 1)) = cL hs os' (s.mix h0.w o) (fun _ => true) m := funext fun k => cL_shift m k
        rw [e]; exact this
def ancStep (o : Oper) (acc : List (List Nat)) : List Nat := ((o.after.toList.filter fun e => Region.binds .any e).flatMap fun e => e.on :: acc.getD e.on []).eraseDups
def ancsGo : List Oper → List (List Nat) → List (List Nat)
  | [], acc => acc
  | o :: os, acc => ancsGo os (acc ++ [ancStep o acc])
def Closed (ops : Array Oper) (L : Nat → Bool) : Prop := ∀ j o, ops[j]? = some o → L j = true → ∀ e ∈ o.after, Region.binds .any e = true → L e.on = true
def AncOk (ops : Array Oper) (acc : List (List Nat)) : Prop := ∀ (j : Nat) (l : List Nat) (o : Oper), acc[j]? = some l → ops[j]? = some o → ∀ a ∈ l, ∀ L, Closed ops L → (∀ e ∈ o.after, Region.binds .any e = true → L e.on = true) → L a = true
theorem ancs_ok {ops : Array Oper} : ∀ (os : List Oper) (acc : List (List Nat)), AncOk ops acc → (∀ (m : Nat) (o : Oper), os[m]? = some o → ops[acc.length + m]? = some o) → AncOk ops (ancsGo os acc)
  | [], acc, h, _ => h
  | o :: os, acc, h, ho => by
    simp only [ancsGo]
    refine ancs_ok os _ ?_ (fun m o' hm => by
      have := ho (m + 1) o' (by simpa using hm)
      rw [← this]; simp only [List.length_append, List.length_singleton]; congr 1; omega)
    intro j l oj hj hoj a ha L hL hd
    by_cases hlt : j < acc.length
    · rw [List.getElem?_append_left hlt] at hj
      exact h j l oj hj hoj a ha L hL hd
    · rw [List.getElem?_append_right (by omega)] at hj
      have hj0 : j - acc.length = 0 := by
        have := (List.getElem?_eq_some_iff.1 hj).1
        simp only [List.length_singleton] at this
        omega
      rw [hj0] at hj
      simp only [List.getElem?_cons_zero, Option.some.injEq] at hj
      subst hj
      have hjj : j = acc.length := by omega
      have := ho 0 o rfl
      rw [Nat.add_zero, ← hjj, hoj] at this
      obtain rfl := Option.some.inj this
      simp only [ancStep, List.mem_eraseDups, List.mem_flatMap, List.mem_filter] at ha
      obtain ⟨e, ⟨he1, he2⟩, ha⟩ := ha
      have hLe := hd e (by simpa using he1) he2
      rcases List.mem_cons.1 ha with rfl | ha
      · exact hLe
      · cases hacc : acc[e.on]? with
        | none => simp [List.getD, hacc] at ha
        | some l' =>
          have ha' : a ∈ l' := by simpa [List.getD, hacc] using ha
          have hlt' := (List.getElem?_eq_some_iff.1 hacc).1
          cases hoe : ops[e.on]? with
          | none => exact absurd hoe (by
              have : e.on < ops.size := by
                have := (Array.getElem?_eq_some_iff.1 hoj).1
                omega
              simp [this])
          | some oe => exact h e.on l' oe hacc hoe a ha' L hL (fun e' he' hb => hL e.on oe hoe hLe e' he' hb)
def noPart (dst : Option Nat) (W : List Nat) : Bool := match dst with
  | some d => W.all fun k => !(decide (30000 ≤ k) && (k - 30000) / 100 == d)
  | none => true
def pairOk (an : List (List Nat)) (is : List Ins) (hs : List Hint) (i j : Nat) : Bool := match hs[i]?, hs[j]?, is[i]?, is[j]?, an[j]? with
  | some a, some b, some x, some y, some l => noPart y.dst a.w && (l.contains i || (a.w.all (fun k => !b.kd.contains k && (!b.ks.contains k || a.soft.contains k)) && b.w.all (fun k => !a.kd.contains k && (!a.ks.contains k || b.soft.contains k)) && noPart x.dst b.w))
  | _, _, _, _, _ => false
def okDrw (P : Program) (n : Nat) (ops : Array Oper) (is : List Ins) (hs : List Hint) : Bool :=
  okReg P ops n ops.toList is && hs.all (fun h => h.w.all fun k => h.kd.contains k) && decide (is.length = hs.length) &&
  ops.toList.zipIdx.all (fun x => x.1.after.all fun e => !Region.binds .any e || decide (e.on < x.2)) &&
  let an := ancsGo ops.toList []
  (List.range hs.length).all fun j => (List.range j).all fun i => pairOk an is hs i j
theorem okReg_at {n : Nat} {ops : Array Oper} : ∀ (os : List Oper) (is : List Ins), okReg P ops n os is = true → os.length = is.length ∧ ∀ (m : Nat) (o : Oper) (i : Ins), os[m]? = some o → is[m]? = some i → okIns P ops n o i = true
  | [], [], _ => by simp
  | [], _ :: _, h => by simp [okReg] at h
  | _ :: _, [], h => by simp [okReg] at h
  | o :: os, i :: is, h => by
    simp only [okReg, Bool.and_eq_true] at h
    obtain ⟨k1, k2⟩ := okReg_at os is h.2
    refine ⟨by simp [k1], fun m o' i' h1 h2 => ?_⟩
    cases m with
    | zero =>
      simp only [List.getElem?_cons_zero, Option.some.injEq] at h1 h2
      subst h1; subst h2; exact h.1
    | succ m => exact k2 m o' i' (by simpa using h1) (by simpa using h2)
end
end Pv

set_option linter.unusedVariables false
set_option linter.unusedSimpArgs false
namespace Pv
open Go
section
variable {P : Program} {cx : Cx} {C : Orc} {n : Nat}
structure Rg (P : Program) (C : Orc) (cx : Cx) (n : Nat) (ops : Array Oper) (is : List Ins) (hs : List Hint) (os : List St) (s0 : St) : Prop where
  li : is.length = hs.length
  lo : os.length = hs.length
  lp : ops.size = hs.length
  ins : ∀ (m : Nat) (o : Oper) (i : Ins), ops[m]? = some o → is[m]? = some i → okIns P ops n o i = true
  wk : ∀ (m : Nat) (h : Hint), hs[m]? = some h → ∀ k ∈ h.w, k ∈ h.kd
  anc : AncOk ops (ancsGo ops.toList [])
  back : ∀ (m : Nat) (o : Oper), ops[m]? = some o → ∀ e ∈ o.after, Region.binds .any e = true → e.on < m
  pair : ∀ i j : Nat, i < j → j < hs.length → pairOk (ancsGo ops.toList []) is hs i j = true
  at' : ∀ (m : Nat) (i : Ins) (h : Hint) (o : St), is[m]? = some i → hs[m]? = some h → os[m]? = some o → At C cx i h o (cL hs os s0 (fun _ => true) m)
variable {ops : Array Oper} {is : List Ins} {hs : List Hint} {os : List St} {s0 : St} {L : Nat → Bool} {i : Nat}
theorem Rg.get (R : Rg P C cx n ops is hs os s0) {m : Nat} (hm : m < hs.length) : ∃ o x h t, ops[m]? = some o ∧ is[m]? = some x ∧ hs[m]? = some h ∧ os[m]? = some t := by
  have h1 := R.li
  have h2 := R.lo
  have h3 := R.lp
  exact ⟨ops[m]'(by omega), is[m]'(by omega), hs[m]'(by omega), os[m]'(by omega), by simp, by simp, by simp, by simp⟩
theorem Rg.two (R : Rg P C cx n ops is hs os s0) {i j : Nat} (hij : i < j) {a b : Hint} (ha : hs[i]? = some a) (hb : hs[j]? = some b) :
    (∀ L, Closed ops L → (∀ o, ops[j]? = some o → ∀ e ∈ o.after, Region.binds .any e = true → L e.on = true) → L i = true) ∨
    ((∀ k ∈ a.w, k ∉ b.kd ∧ (k ∈ b.ks → k ∈ a.soft)) ∧ (∀ k ∈ b.w, k ∉ a.kd ∧ (k ∈ a.ks → k ∈ b.soft)) ∧ ∀ x, is[i]? = some x → noPart x.dst b.w = true) := by
  have hj := (List.getElem?_eq_some_iff.1 hb).1
  have := R.pair i j hij hj
  unfold pairOk at this
  rw [ha, hb] at this
  split at this
  case h_2 => simp at this
  rename_i a' b' x y l e1 e2 e3 e4 e5
  simp only [Option.some.injEq] at e1 e2
  subst e1; subst e2
  simp only [Bool.and_eq_true, Bool.or_eq_true, List.all_eq_true, Bool.not_eq_true', List.contains_iff_mem] at this
  obtain ⟨_, this⟩ := this
  rcases this with h | ⟨⟨h1, h2⟩, h3⟩
  · left
    intro L hL hd
    obtain ⟨o, _, _, _, ho, _⟩ := R.get hj
    exact R.anc j l o e5 ho i h L hL (hd o ho)
  · right
    refine ⟨fun k hk => ?_, fun k hk => ?_, fun x' hx' => ?_⟩
    · obtain ⟨q1, q2⟩ := h1 k hk
      refine ⟨fun h => ?_, fun h => q2.resolve_left (fun e => ?_)⟩
      · rw [List.contains_iff_mem.2 h] at q1; simp at q1
      · rw [List.contains_iff_mem.2 h] at e; simp at e
    · obtain ⟨q1, q2⟩ := h2 k hk
      refine ⟨fun h => ?_, fun h => q2.resolve_left (fun e => ?_)⟩
      · rw [List.contains_iff_mem.2 h] at q1; simp at q1
      · rw [List.contains_iff_mem.2 h] at e; simp at e
    · rw [e3] at hx'
      obtain rfl := Option.some.inj hx'
      exact h3
theorem Rg.npart (R : Rg P C cx n ops is hs os s0) {i j : Nat} (hij : i < j) {a : Hint} {y : Ins} (ha : hs[i]? = some a) (hy : is[j]? = some y) : noPart y.dst a.w = true := by
  have hj := (List.getElem?_eq_some_iff.1 hy).1
  have := R.li
  have := R.pair i j hij (by omega)
  unfold pairOk at this
  rw [ha, hy] at this
  split at this
  case h_2 => simp at this
  rename_i a' b' x y' l e1 e2 e3 e4 e5
  simp only [Option.some.injEq] at e1 e4
  subst e1; subst e4
  simp only [Bool.and_eq_true] at this
  exact this.1
theorem Rg.after (R : Rg P C cx n ops is hs os s0) (hL : Closed ops L) (hi : L i = false) {j : Nat} (hij : i < j) (hj : L j = true) {a b : Hint} (ha : hs[i]? = some a) (hb : hs[j]? = some b) :
    (∀ k ∈ a.w, k ∉ b.kd ∧ (k ∈ b.ks → k ∈ a.soft)) ∧ (∀ k ∈ b.w, k ∉ a.kd ∧ (k ∈ a.ks → k ∈ b.soft)) ∧ ∀ x, is[i]? = some x → noPart x.dst b.w = true := by
  rcases R.two hij ha hb with h | h
  · have := h L hL (fun o ho e he hb => hL j o ho hj e he hb)
    rw [hi] at this; simp at this
  · exact h
theorem Rg.read (R : Rg P C cx n ops is hs os s0) (hL : Closed ops L) (hi : L i = false) (hd : ∀ o, ops[i]? = some o → ∀ e ∈ o.after, Region.binds .any e = true → L e.on = true) {a : Hint} (ha : hs[i]? = some a) {k : Nat} (hk : k ∈ a.kd) :
    cL hs os s0 L hs.length k = cL hs os s0 (fun _ => true) i k := by
  have hil := (List.getElem?_eq_some_iff.1 ha).1
  have up : ∀ d, i + d ≤ hs.length → cL hs os s0 L (i + d) k = cL hs os s0 L i k := by
    intro d
    induction d with
    | zero => intro _; rfl
    | succ d ih =>
      intro hd'
      obtain ⟨_, _, b, o, _, _, hb, ho⟩ := R.get (m := i + d) (by omega)
      rw [← Nat.add_assoc, cL_succ hb ho, if_neg, ih (by omega)]
      rintro ⟨h1, h2⟩
      have hne : d ≠ 0 := by rintro rfl; rw [Nat.add_zero, hi] at h1; simp at h1
      exact ((R.after hL hi (j := i + d) (by omega) h1 ha hb).2.1 k h2).1 hk
  have down : ∀ m, m ≤ i → cL hs os s0 L m k = cL hs os s0 (fun _ => true) m k := by
    intro m
    induction m with
    | zero => intro _; rfl
    | succ m ih =>
      intro hm
      obtain ⟨_, _, b, o, _, _, hb, ho⟩ := R.get (m := m) (by omega)
      rw [cL_succ hb ho, cL_succ hb ho, ih (by omega)]
      by_cases hw : k ∈ b.w
      · rcases R.two (show m < i by omega) hb ha with h | h
        · have := h L hL hd
          simp [this]
        · exact absurd hk (h.1 k hw).1
      · simp [hw]
  have := up (hs.length - i) (by omega)
  rw [show i + (hs.length - i) = hs.length by omega] at this
  rw [this, down i (Nat.le_refl _)]
theorem Rg.readS (R : Rg P C cx n ops is hs os s0) (hL : Closed ops L) (hi : L i = false) (hd : ∀ o, ops[i]? = some o → ∀ e ∈ o.after, Region.binds .any e = true → L e.on = true) {a : Hint} (ha : hs[i]? = some a) {k : Nat} (hk : k ∈ a.ks) :
    Sim (cL hs os s0 L hs.length k) (cL hs os s0 (fun _ => true) i k) := by
  have hil := (List.getElem?_eq_some_iff.1 ha).1
  have soft : ∀ (m : Nat) (b : Hint) (o : St), hs[m]? = some b → os[m]? = some o → k ∈ b.soft → Sim (o.get k) (cL hs os s0 (fun _ => true) m k) := by
    intro m b o hb ho hs'
    obtain ⟨_, x, _, _, _, hx, _, _⟩ := R.get (m := m) (List.getElem?_eq_some_iff.1 hb).1
    exact Sim.symm (.inr ((R.at' m x b o hx hb ho).soft k hs'))
  have up : ∀ d, i + d ≤ hs.length → Sim (cL hs os s0 L (i + d) k) (cL hs os s0 L i k) ∨ Sim (cL hs os s0 L (i + d) k) (cL hs os s0 (fun _ => true) i k) := by
    intro d
    induction d with
    | zero => intro _; exact .inl (Sim.refl _)
    | succ d ih =>
      intro hd'
      obtain ⟨_, _, b, o, _, _, hb, ho⟩ := R.get (m := i + d) (by omega)
      rw [← Nat.add_assoc, cL_succ hb ho]
      split
      case isFalse => exact ih (by omega)
      rename_i hc
      obtain ⟨h1, h2⟩ := hc
      have hne : d ≠ 0 := by rintro rfl; rw [Nat.add_zero, hi] at h1; simp at h1
      have hsb := ((R.after hL hi (j := i + d) (by omega) h1 ha hb).2.1 k h2).2 hk
      have hka := ((R.after hL hi (j := i + d) (by omega) h1 ha hb).2.1 k h2).1
      right
      refine Sim.trans (soft _ b o hb ho hsb) ?_
      have back : ∀ q, q ≤ d → Sim (cL hs os s0 (fun _ => true) (i + q) k) (cL hs os s0 (fun _ => true) i k) := by
        intro q
        induction q with
        | zero => intro _; exact Sim.refl _
        | succ q ihq =>
          intro hq
          obtain ⟨_, _, b', o', _, _, hb', ho'⟩ := R.get (m := i + q) (by omega)
          rw [← Nat.add_assoc, cL_succ hb' ho']
          split
          case isFalse => exact ihq (by omega)
          rename_i hc'
          obtain ⟨_, hw'⟩ := hc'
          have hq0 : q ≠ 0 := by
            rintro rfl
            rw [Nat.add_zero, ha] at hb'
            obtain rfl := Option.some.inj hb'
            exact hka (R.wk i a ha k hw')
          have hLq : L (i + q) = true := by
            rcases R.two (show i + q < i + d by omega) hb' hb with h | h
            · exact h L hL (fun o ho e he hb => hL _ o ho h1 e he hb)
            · exact absurd (R.wk _ b hb k h2) (h.1 k hw').1
          have := ((R.after hL hi (j := i + q) (by omega) hLq ha hb').2.1 k hw').2 hk
          exact Sim.trans (soft _ b' o' hb' ho' this) (ihq (by omega))
      exact back d (Nat.le_refl _)
  have down : ∀ m, m ≤ i → Sim (cL hs os s0 L m k) (cL hs os s0 (fun _ => true) m k) := by
    intro m
    induction m with
    | zero => intro _; exact Sim.refl _
    | succ m ih =>
      intro hm
      obtain ⟨_, _, b, o, _, _, hb, ho⟩ := R.get (m := m) (by omega)
      rw [cL_succ hb ho, cL_succ hb ho]
      by_cases hw : k ∈ b.w
      · rcases R.two (show m < i by omega) hb ha with h | h
        · have := h L hL hd
          simp only [this, hw, and_self, if_true]
          exact Sim.refl _
        · have hsb := (h.1 k hw).2 hk
          by_cases hLm : L m = true
          · simp only [hLm, hw, and_self, if_true]
            exact Sim.refl _
          · rw [if_neg (fun h => hLm h.1), if_pos ⟨rfl, hw⟩]
            exact Sim.trans (ih (by omega)) (Sim.symm (soft m b o hb ho hsb))
      · rw [if_neg (fun h => hw h.2), if_neg (fun h => hw h.2)]
        exact ih (by omega)
  have := up (hs.length - i) (by omega)
  rw [show i + (hs.length - i) = hs.length by omega] at this
  rcases this with h | h
  · exact Sim.trans h (down i (Nat.le_refl _))
  · exact h
theorem Rg.write (R : Rg P C cx n ops is hs os s0) (hL : Closed ops L) (hi : L i = false) {a : Hint} {o : St} (ha : hs[i]? = some a) (ho : os[i]? = some o) {L' : Nat → Bool} (hL' : ∀ j, L' j = if j = i then true else L j) (k : Nat) :
    cL hs os s0 L' hs.length k = if k ∈ a.w then o.get k else cL hs os s0 L hs.length k := by
  have hil := (List.getElem?_eq_some_iff.1 ha).1
  have up : ∀ d, i + 1 + d ≤ hs.length → cL hs os s0 L' (i + 1 + d) k = if k ∈ a.w then o.get k else cL hs os s0 L (i + 1 + d) k := by
    intro d
    induction d with
    | zero =>
      intro _
      have e : L' i = true := by rw [hL', if_pos rfl]
      rw [Nat.add_zero, cL_succ ha ho, cL_succ ha ho, e, hi]
      simp only [true_and, Bool.false_eq_true, false_and, if_false]
      rw [cL_congr (L := L') (L' := L) i k (fun j hj => by rw [hL', if_neg (by omega)])]
    | succ d ih =>
      intro hd
      obtain ⟨_, _, b, ob, _, _, hb, hob⟩ := R.get (m := i + 1 + d) (by omega)
      have e : L' (i + 1 + d) = L (i + 1 + d) := by rw [hL', if_neg (by omega)]
      rw [← Nat.add_assoc, cL_succ hb hob, cL_succ hb hob, e, ih (by omega)]
      by_cases hc : L (i + 1 + d) = true ∧ k ∈ b.w
      · rw [if_pos hc, if_pos hc, if_neg]
        intro hk
        exact ((R.after hL hi (j := i + 1 + d) (by omega) hc.1 ha hb).2.1 k hc.2).1 (R.wk i a ha k hk)
      · rw [if_neg hc, if_neg hc]
  have := up (hs.length - (i + 1)) (by omega)
  rwa [show i + 1 + (hs.length - (i + 1)) = hs.length by omega] at this
theorem Rg.parts (R : Rg P C cx n ops is hs os s0) (hL : Closed ops L) (hi : L i = false) (h0 : ∀ k, isPart is k = true → s0.get k = none) {x : Ins} (hx : is[i]? = some x) {d k : Nat} (hd : x.dst = some d) (h1 : 30000 ≤ k) (h2 : (k - 30000) / 100 = d) :
    cL hs os s0 L hs.length k = none := by
  have hil := (List.getElem?_eq_some_iff.1 hx).1
  have hli := R.li
  obtain ⟨_, _, a, _, _, _, ha, _⟩ := R.get (m := i) (by omega)
  have hnp : ∀ W, noPart x.dst W = true → k ∉ W := by
    intro W hW hk
    simp only [noPart, hd, List.all_eq_true] at hW
    have := hW k hk
    simp [h1, h2] at this
  have go : ∀ m, m ≤ hs.length → cL hs os s0 L m k = none := by
    intro m
    induction m with
    | zero =>
      intro _
      refine h0 k ?_
      simp only [isPart, Bool.and_eq_true, decide_eq_true_eq, List.any_eq_true, beq_iff_eq]
      exact ⟨h1, x, List.mem_of_getElem? hx, by rw [hd, h2]⟩
    | succ m ih =>
      intro hm
      obtain ⟨_, _, b, o, _, _, hb, ho⟩ := R.get (m := m) (by omega)
      rw [cL_succ hb ho, if_neg, ih (by omega)]
      rintro ⟨hLm, hw⟩
      rcases Nat.lt_trichotomy m i with hlt | rfl | hlt
      · exact hnp b.w (R.npart hlt hb hx) hw
      · rw [hi] at hLm; simp at hLm
      · exact hnp b.w ((R.after hL hi hlt hLm ha hb).2.2 x hx) hw
  exact go hs.length (Nat.le_refl _)
end
end Pv

set_option linter.unusedVariables false
set_option linter.unusedSimpArgs false
namespace Pv
open Go
section
variable {P : Program} {cx : Cx} {C : Orc} {n : Nat} {E0 : Env} {w0 : World} {β0 : Nat → Option Nat} {g0 : Nat → List Nat} {tm0 : Array Value}
variable {ops : Array Oper} {is : List Ins} {hs : List Hint} {os : List St} {s0 : St}
theorem ASt.congr {a : Act} {w : World} {s s' : St} (h : ASt cx n E0 w0 β0 g0 tm0 a w s) (e : ∀ k, s'.get k = s.get k) : ASt cx n E0 w0 β0 g0 tm0 a w s' := by
  obtain ⟨E, β, g, hI, hF, hp⟩ := h.st
  exact ⟨h.defers, h.size, h.pins, E, β, g, hI.congr e, hF, fun p r hpr => ⟨(hp p r hpr).1, fun hne => ⟨((hp p r hpr).2 hne).1, fun x hx => ((hp p r hpr).2 hne).2 x (by rw [← e]; exact hx)⟩⟩⟩
theorem getD_of {l : Array Bool} {j : Nat} (h : l.getD j true = false) : j < l.size ∧ l.getD j false = false := by
  by_cases hj : j < l.size
  · refine ⟨hj, ?_⟩
    simp only [Array.getD_eq_getD_getElem?, Array.getElem?_eq_getElem hj, Option.getD_some] at h ⊢
    exact h
  · rw [Array.getD_eq_getD_getElem?, Array.getElem?_eq_none (by omega)] at h
    simp at h
theorem getD_to {l : Array Bool} {j : Nat} (hj : j < l.size) (h : l.getD j false = false) : l.getD j true = false := by
  simp only [Array.getD_eq_getD_getElem?, Array.getElem?_eq_getElem hj, Option.getD_some] at h ⊢
  exact h
theorem drw_go (hC : SoundC P C) (R : Rg P C cx n ops is hs os s0) (h0 : ∀ k, isPart is k = true → s0.get k = none) {Q : Exit → Act → World → Prop}
    (hQ : ∀ a w s, (∀ k, s.get k = cL hs os s0 (fun _ => true) hs.length k) → ASt cx n E0 w0 β0 g0 tm0 a w s → Q .normal a w) :
    ∀ (fuel : Nat) (listed : Array Bool) (a : Act) (w : World) (s : St), listed.size = ops.size → listed.toList.countP (fun b => !b) ≤ fuel → Closed ops (fun j => listed.getD j false) →
      (∀ k, s.get k = cL hs os s0 (fun j => listed.getD j false) hs.length k) → ASt cx n E0 w0 β0 g0 tm0 a w s → wpAny P .any ops Q fuel listed a w := by
  have done : ∀ (listed : Array Bool) (a : Act) (w : World) (s : St), (∀ j, j < hs.length → listed.getD j false = true) → (∀ k, s.get k = cL hs os s0 (fun j => listed.getD j false) hs.length k) → ASt cx n E0 w0 β0 g0 tm0 a w s → Q .normal a w := by
    intro listed a w s hall hs' hA
    exact hQ a w s (fun k => by rw [hs' k]; exact cL_congr _ k (fun j hj => hall j hj)) hA
  have hlp := R.lp
  intro fuel
  induction fuel with
  | zero =>
    intro listed a w s hsz hc hL hs' hA
    have hall : ∀ j, j < listed.size → listed.getD j false = true := by
      intro j hj
      have hz : listed.toList.countP (fun b => !b) = 0 := by omega
      rw [List.countP_eq_zero] at hz
      have := hz (listed[j]) (by simp)
      simp only [Array.getD_eq_getD_getElem?, Array.getElem?_eq_getElem hj, Option.getD_some]
      simpa using this
    refine ⟨?_, done listed a w s (fun j hj => hall j (by omega)) hs' hA⟩
    rw [List.eq_nil_iff_forall_not_mem]
    intro j hj
    obtain ⟨h1, _⟩ := mem_ready.1 hj
    obtain ⟨h2, h3⟩ := getD_of h1
    rw [hall j h2] at h3
    simp at h3
  | succ fuel ih =>
    intro listed a w s hsz hc hL hs' hA
    refine ⟨fun hr => ?_, fun i hi => ?_⟩
    · refine done listed a w s ?_ hs' hA
      intro j
      induction j using Nat.strongRecOn with
      | ind j ihj =>
        intro hj
        cases hb : listed.getD j false with
        | true => rfl
        | false =>
          obtain ⟨o, _, _, _, ho, _⟩ := R.get hj
          have : j ∈ Region.ready .any ops listed := by
            rw [mem_ready]
            exact ⟨getD_to (by omega) hb, o, ho, fun e he hbd => ihj e.on (R.back j o ho e he hbd) (by have := R.back j o ho e he hbd; omega)⟩
          rw [hr] at this
          simp at this
    · obtain ⟨h1, o, ho, hd⟩ := mem_ready.1 hi
      obtain ⟨hil, hLi⟩ := getD_of h1
      obtain ⟨o', x, h, t, ho', hx, hh, ht⟩ := R.get (m := i) (by omega)
      rw [ho] at ho'
      obtain rfl := Option.some.inj ho'
      have hd' : ∀ o, ops[i]? = some o → ∀ e ∈ o.after, Region.binds .any e = true → listed.getD e.on false = true := by
        intro o2 ho2
        rw [ho] at ho2
        obtain rfl := Option.some.inj ho2
        exact hd
      have A := R.at' i x h t hx hh ht
      obtain ⟨si, f, q1, q2, q3⟩ := A.ex
      have hread : ∀ k ∈ h.kd, s.get k = si.get k := fun k hk => by
        rw [hs' k, q1 k]
        exact R.read (L := fun j => listed.getD j false) hL hLi hd' hh hk
      have hreadS : ∀ k ∈ h.ks, Sim (s.get k) (si.get k) := fun k hk => by
        rw [hs' k, q1 k]
        exact R.readS (L := fun j => listed.getD j false) hL hLi hd' hh hk
      have hwk : ∀ k ∈ h.w, s.get k = (si.restr (h.kd ++ h.ks)).get k := by
        intro k hk
        have := R.wk i h hh k hk
        rw [get_restr, if_pos (List.mem_append.2 (.inl this))]
        exact hread k this
      have hp : ∀ d k, x.dst = some d → 30000 ≤ k → (k - 30000) / 100 = d → k ∉ h.w → s.get k = none := fun d k hd1 h1 h2 _ => by
        rw [hs' k]
        exact R.parts (L := fun j => listed.getD j false) hL hLi h0 hx hd1 h1 h2
      have ev : ∃ o1 f1, evOp C cx s x = some (o1, f1) ∧ ∀ k, o1.get k = if k ∈ h.w then t.get k else s.get k := by
        rcases A.ks with hk | hk
        · refine op_loc q2 q3 (fun k y hy => ?_) hwk hp
          rw [get_restr] at hy
          split at hy
          · rename_i hm
            rw [hk, List.append_nil] at hm
            rw [hread k hm]; exact hy
          · simp at hy
        · refine load_sim hk q2 q3 (fun k y hy => ?_) hwk hp
          rw [get_restr] at hy ⊢
          split at hy
          · rename_i hm
            rw [if_pos hm]
            rcases List.mem_append.1 hm with hm | hm
            · exact .inl (hread k hm).symm
            · exact (hreadS k hm).symm
          · simp at hy
      obtain ⟨o1, f1, e1, e2⟩ := ev
      have main := evOp_ok hC hA (R.ins i o x ho hx) e1 (K := wpAny P .any ops Q fuel (listed.setIfInBounds i true)) (Q := Q) (fun a2 w2 hA2 => by
        refine ih (listed.setIfInBounds i true) a2 w2 o1 (by simpa using hsz) ?_ ?_ ?_ hA2
        · have hil' : i < listed.toList.length := by simpa using hil
          have hb : listed.toList[i] = false := by
            have := hLi
            simp only [Array.getD_eq_getD_getElem?, Array.getElem?_eq_getElem hil, Option.getD_some] at this
            simpa using this
          have hpos : 0 < listed.toList.countP (fun b => !b) := List.countP_pos_iff.2 ⟨listed.toList[i], List.getElem_mem _, by rw [hb]; rfl⟩
          rw [Array.toList_setIfInBounds, List.countP_set hil', hb]
          simp only [Bool.not_false, if_true, Bool.not_true, Bool.false_eq_true, if_false]
          omega
        · intro j oj hoj hLj e he hbd
          by_cases hji : j = i
          · subst hji
            exact getD_set_true (hd' oj hoj e he hbd)
          · simp only [] at hLj
            rw [getD_set_ne false (Ne.symm hji)] at hLj
            exact getD_set_true (hL j oj hoj hLj e he hbd)
        · intro k
          rw [e2 k]
          rw [R.write (L := fun j => listed.getD j false) hL hLi hh ht (L' := fun j => (listed.setIfInBounds i true).getD j false) (fun j => ?_) k]
          · rw [hs' k]
          · by_cases hji : j = i
            · subst hji
              rw [if_pos rfl]
              simp [Array.getD_eq_getD_getElem?, hil]
            · rw [if_neg hji]
              exact getD_set_ne false (Ne.symm hji))
      unfold wpOp
      rw [ho]
      simp only []
      by_cases hw : Region.wanted o (yielded ops a.tmps) = true
      · rw [if_pos hw] at main ⊢
        exact .inl main
      · rw [if_neg hw] at main ⊢
        exact main
end
end Pv

set_option linter.unusedVariables false
set_option linter.unusedSimpArgs false
namespace Pv
open Go
section
variable {P : Program} {cx : Cx} {C : Orc} {n : Nat} {E0 : Env} {w0 : World} {β0 : Nat → Option Nat} {g0 : Nat → List Nat} {tm0 : Array Value}
variable {ops : Array Oper} {is : List Ins} {hs : List Hint} {os : List St} {s0 s s2 : St} {a : Act} {w : World}
theorem Inv.clear {E : Env} {β : Nat → Option Nat} {tm : Array Value} {g : Nat → List Nat} (hI : Inv E w β s tm g) (hd : ∀ i ∈ is, ∀ d, i.dst = some d → d < 5000) :
    Inv E w β (s.clear is) tm (fun i => if isPart is i then [] else g i) := by
  have hlow : ∀ k, k < 30000 → isPart is k = false := by
    intro k hk
    simp only [isPart, Bool.and_eq_false_iff, decide_eq_false_iff_not]
    exact .inl (by omega)
  have hhigh : ∀ k, 600000 ≤ k → isPart is k = false := by
    intro k hk
    simp only [isPart, Bool.and_eq_false_iff, List.any_eq_false, beq_iff_eq]
    right
    intro i hi e
    have := hd i hi _ e
    omega
  have hget : ∀ k, isPart is k = false → (s.clear is).get k = s.get k := fun k hk => by rw [get_clear, hk]; rfl
  have hal : ∀ p, AlOk s p → AlOk (s.clear is) p := fun p ⟨h1, t, v, h2, h3⟩ => ⟨h1, t, v, by rw [hget _ (hlow _ h1)]; exact h2, h3⟩
  have step : ∀ t cv fp, TOk E w β s tm t cv fp → TOk E w β (s.clear is) tm t cv fp := fun t cv fp h =>
    TOk.step (Stp.refl E w) (fun _ _ h => h) hal (fun p l sz rows ha hh => by rw [cell_congr (hget _ (hlow _ ha.1))] at hh; exact ⟨⟨l, rows, hh, rfl⟩, rfl⟩)
      (fun p ha _ hh => by rw [place_congr (hget _ (hlow _ ha.1))] at hh; exact ⟨hh, rfl⟩) t cv fp (fun _ _ => rfl) h
  refine ⟨fun i t v hg => ?_, fun i hg => ?_, fun i b hb => ?_, fun i => ?_, fun i j hij b hb hb2 => ?_, fun i b hb => ?_, hI.small⟩
  · rw [get_clear] at hg
    split at hg
    · simp at hg
    rename_i hp
    simp only [hp, Bool.false_eq_true, if_false]
    have := hI.roots i t v hg
    unfold RootOk at this ⊢
    split
    · rename_i hb; rw [if_pos hb] at this; exact this
    · rename_i hb; rw [if_neg hb] at this; exact step _ _ _ this
  · rw [get_clear] at hg
    split at hg
    · rename_i hp; simp [hp]
    · rename_i hp
      simp only [hp, Bool.false_eq_true, if_false]
      exact hI.absent i hg
  · split at hb
    · simp at hb
    · exact hI.own i b hb
  · split
    · simp
    · exact hI.nodup i
  · split at hb
    · simp at hb
    split at hb2
    · simp at hb2
    exact hI.disj i j hij b hb hb2
  · have hB := hI.box i b hb
    refine hB.congr (hget i ?_)
    rcases hB.rng with h | h
    · exact hlow i (by omega)
    · exact hhigh i h
theorem ASt.clear (h : ASt cx n E0 w0 β0 g0 tm0 a w s) (hd : ∀ i ∈ is, ∀ d, i.dst = some d → d < 5000) : ASt cx n E0 w0 β0 g0 tm0 a w (s.clear is) := by
  obtain ⟨E, β, g, hI, hF, hp⟩ := h.st
  refine ⟨h.defers, h.size, h.pins, E, β, _, hI.clear hd, { hF with sub := fun i b hb => ?_ }, fun p r hpr => ⟨(hp p r hpr).1, fun hne => ⟨((hp p r hpr).2 hne).1, fun x hx => ((hp p r hpr).2 hne).2 x ?_⟩⟩⟩
  · split at hb
    · simp at hb
    · exact hF.sub i b hb
  · rw [get_clear] at hx
    split at hx
    · simp at hx
    · exact hx
theorem ASt.drawn (h : ASt cx n E0 w0 β0 g0 tm0 a w s) (m : Nat) : ASt cx n E0 w0 β0 g0 tm0 a { w with drawn := m } s := by
  obtain ⟨E, β, g, hI, hF, hp⟩ := h.st
  refine ⟨h.defers, h.size, h.pins, E, β, g, hI.heap rfl, { hF with wf := ⟨hF.wf.os, hF.wf.output⟩ }, hp⟩
theorem drw_ok (h1 : P.follows .mixedOrders = true) (hC : SoundC P C) (hok : okDrw P n ops is hs = true) (hev : evDrw C cx is hs (s.clear is) = some (os, s2)) {id : Nat} {Q : Exit → Act → World → Prop} (h : ASt cx n E0 w0 β0 g0 tm0 a w s)
    (hQ : ∀ a w, ASt cx n E0 w0 β0 g0 tm0 a w s2 → Q .normal a w) : (Code.region id ops true).wp P Q a w := by
  simp only [okDrw, Bool.and_eq_true, decide_eq_true_eq, List.all_eq_true, List.contains_iff_mem] at hok
  obtain ⟨⟨⟨⟨h2, h3⟩, h4⟩, h5⟩, h6⟩ := hok
  obtain ⟨k1, k2, k3, k4⟩ := evDrw_ok is hs _ os s2 hev
  obtain ⟨r1, r2⟩ := okReg_at _ _ h2
  have R : Rg P C cx n ops is hs os (s.clear is) := by
    refine ⟨k1, k2, by simpa [h4] using r1, fun m o i ho hi => r2 m o i (by simpa using ho) hi, fun m h hh k hk => h3 h (List.mem_of_getElem? hh) k hk, ?_, ?_, ?_, k4⟩
    · refine ancs_ok _ [] (by intro j l o hj; simp at hj) (fun m o hm => by simpa using hm)
    · intro m o ho e he hb
      have := h5 (o, m) (by
        rw [List.mem_zipIdx_iff_getElem?]
        simpa using ho)
      have := this
      rw [Array.all_eq_true_iff_forall_mem] at this
      have := this e he
      simpa [hb] using this
    · intro i j hij hj
      exact h6 j (List.mem_range.2 hj) i (List.mem_range.2 hij)
  have hd : ∀ i ∈ is, ∀ d, i.dst = some d → d < 5000 := by
    intro i hi d hd
    obtain ⟨m, hm⟩ := List.getElem?_of_mem hi
    have hml := (List.getElem?_eq_some_iff.1 hm).1
    obtain ⟨o, ho⟩ : ∃ o, ops[m]? = some o := ⟨ops[m]'(by have := R.lp; have := R.li; omega), by simp⟩
    have := R.ins m o i ho hm
    simp only [okIns, Bool.and_eq_true, decide_eq_true_eq] at this
    obtain ⟨⟨⟨_, e⟩, q⟩, _⟩ := this
    rw [← e, hd] at q
    simp at q
    exact q.1
  refine wp_region_any h1 (drw_go hC R (fun k hk => by rw [get_clear, hk]; rfl) (fun a w s' hs' hA => hQ a w (hA.congr (fun k => by rw [hs' k, k3 k]))) ops.size _ a _ (s.clear is) (by simp) ?_ ?_ ?_ ((h.clear hd).drawn _))
  · have := List.countP_le_length (p := fun b => !b) (l := (Array.replicate ops.size false).toList)
    simpa using this
  · intro j o _ hLj
    simp [Array.getD_eq_getD_getElem?, Array.getElem?_replicate] at hLj
    split at hLj <;> simp at hLj
  · intro k
    have : ∀ m, cL hs os (s.clear is) (fun j => (Array.replicate ops.size false).getD j false) m k = (s.clear is).get k := by
      intro m
      induction m with
      | zero => rfl
      | succ m ih =>
        have e : (Array.replicate ops.size false).getD m false = false := by
          simp only [Array.getD_eq_getD_getElem?, Array.getElem?_replicate]
          split <;> rfl
        simp only [cL, e, Bool.false_eq_true, false_and, if_false]
        split <;> exact ih
    rw [this]
end
end Pv

set_option linter.unusedVariables false
set_option linter.unusedSimpArgs false
namespace Pv
open Go
section
variable {P : Program} {E0 : Env} {w w0 : World} {β0 : Nat → Option Nat} {g0 : Nat → List Nat} {tm0 : Array Value} {s s2 : St} {cx : Cx} {C : Orc} {n : Nat} {a : Act}
def okCode (P : Program) (n : Nat) : Code → Cd → Bool
  | .skip, .skip => true
  | .region _ ops draw, .reg is _ => !draw && okReg P ops n ops.toList is
  | .region _ ops draw, .drw is hs _ => draw && okDrw P n ops is hs
  | .seq a b, .seq a' b' => okCode P n a a' && okCode P n b b'
  | .cond c a b, .cond c' a' b' => okOpd c c' && okCode P n a a' && okCode P n b b'
  | .block id b, .block id' b' => id == id' && okCode P n b b'
  | .loop b, .loop _ b' => okCode P n b b'
  | .exit id, .exit id' => id == id'
  | .ret, .ret => true
  | _, _ => false
def Ex.to : Ex → Exit
  | .nrm => .normal
  | .exit id => .exit id
  | .ret => .ret
mutual
theorem code_ok (hm : P.follows .mixedOrders = true) (hC : SoundC P C) : ∀ (k : Nat) (c : Code) (d : Cd) (s : St) (ex : Ex) (s2 : St) (a : Act) (w : World) (Q : Exit → Act → World → Prop), okCode P n c d = true → evCode C cx k d s = some (ex, s2) → ASt cx n E0 w0 β0 g0 tm0 a w s →
    (∀ a w, ASt cx n E0 w0 β0 g0 tm0 a w s2 → Q ex.to a w) → c.wp P Q a w
  | 0, c, d, s, ex, s2, a, w, Q, _, hev, _, _ => by simp [evCode] at hev
  | k + 1, c, d, s, ex, s2, a, w, Q, hok, hev, h, hQ => by
    unfold okCode at hok
    split at hok
    · -- skip
      simp only [evCode, Option.some.injEq, Prod.mk.injEq] at hev
      obtain ⟨rfl, rfl⟩ := hev
      exact wp_skip (hQ a w h)
    · -- region
      rename_i id ops draw is live
      simp only [Bool.and_eq_true, Bool.not_eq_true'] at hok
      obtain ⟨rfl, hok⟩ := hok
      simp only [evCode] at hev
      split at hev
      case h_2 => simp at hev
      rename_i s' fs hops
      simp only [Option.some.injEq, Prod.mk.injEq] at hev
      obtain ⟨rfl, rfl⟩ := hev
      exact wp_region_list (reg_ok hC _ _ _ _ _ _ _ h hok hops (fun a w h' => hQ a w (h'.keep live)))
    · -- a region that is drawn
      rename_i id ops draw is hs live
      simp only [Bool.and_eq_true] at hok
      obtain ⟨rfl, hok⟩ := hok
      simp only [evCode] at hev
      split at hev
      case h_2 => simp at hev
      rename_i os s' hops
      simp only [Option.some.injEq, Prod.mk.injEq] at hev
      obtain ⟨rfl, rfl⟩ := hev
      exact drw_ok hm hC hok hops h (fun a w h' => hQ a w (h'.keep live))
    · -- seq
      rename_i x y x' y'
      simp only [Bool.and_eq_true] at hok
      simp only [evCode] at hev
      split at hev
      · rename_i s' hx
        refine wp_seq (code_ok hm hC k x x' s .nrm s' a w _ hok.1 hx h (fun a w h' => ?_))
        exact code_ok hm hC k y y' s' ex s2 a w Q hok.2 hev h' hQ
      · rename_i hx
        refine wp_seq (code_ok hm hC k x x' s ex s2 a w _ hok.1 hev h (fun a w h' => ?_))
        have := hQ a w h'
        cases ex with
        | nrm => exact absurd hev (hx s2)
        | exit id => exact this
        | ret => exact this
    · -- cond
      rename_i c x y c' x' y'
      simp only [Bool.and_eq_true] at hok
      obtain ⟨⟨h1, h2⟩, h3⟩ := hok
      obtain ⟨E, β, g, hI, hF, hp⟩ := h.st
      simp only [evCode] at hev
      split at hev
      · rename_i hc
        obtain ⟨he, _⟩ := opd_sc hI (okOpd_ok h1) hc
        rw [← eval_ev] at he
        exact wp_cond_true he (code_ok hm hC k x x' s ex s2 a w Q h2 hev h hQ)
      · rename_i hc
        obtain ⟨he, _⟩ := opd_sc hI (okOpd_ok h1) hc
        rw [← eval_ev] at he
        exact wp_cond_false he (code_ok hm hC k y y' s ex s2 a w Q h3 hev h hQ)
      · simp at hev
    · -- block
      rename_i id b id' b'
      simp only [Bool.and_eq_true, beq_iff_eq] at hok
      obtain ⟨rfl, hok⟩ := hok
      simp only [evCode] at hev
      split at hev
      · rename_i j s' hb
        simp only [Option.some.injEq, Prod.mk.injEq] at hev
        obtain ⟨rfl, rfl⟩ := hev
        refine wp_block (code_ok hm hC k b b' s _ s' a w _ hok hb h (fun a w h' => ?_))
        have := hQ a w h'
        simp only [Ex.to, Exit.inBlock]
        by_cases hj : j = id
        · rw [if_pos hj] at this ⊢; exact this
        · rw [if_neg hj] at this ⊢; exact this
      · rename_i hb
        refine wp_block (code_ok hm hC k b b' s ex s2 a w _ hok hev h (fun a w h' => ?_))
        have := hQ a w h'
        cases ex with
        | nrm => exact this
        | exit id => exact absurd hev (hb id s2)
        | ret => exact this
    · -- loop
      rename_i b live b'
      exact wp_of_loopR (loop_ok hm hC (k + 1) b live b' s ex s2 a w Q hok hev h hQ)
    · -- exit
      rename_i id id'
      simp only [beq_iff_eq] at hok
      subst hok
      simp only [evCode, Option.some.injEq, Prod.mk.injEq] at hev
      obtain ⟨rfl, rfl⟩ := hev
      exact wp_exit (hQ a w h)
    · simp only [evCode, Option.some.injEq, Prod.mk.injEq] at hev
      obtain ⟨rfl, rfl⟩ := hev
      exact wp_ret (hQ a w h)
    · simp at hok
theorem loop_ok (hm : P.follows .mixedOrders = true) (hC : SoundC P C) : ∀ (k : Nat) (b : Code) (live : List Nat) (b' : Cd) (s : St) (ex : Ex) (s2 : St) (a : Act) (w : World) (Q : Exit → Act → World → Prop), okCode P n b b' = true → evCode C cx k (.loop live b') s = some (ex, s2) → ASt cx n E0 w0 β0 g0 tm0 a w s →
    (∀ a w, ASt cx n E0 w0 β0 g0 tm0 a w s2 → Q ex.to a w) → LoopR P b Q a w
  | 0, b, live, b', s, ex, s2, a, w, Q, _, hev, _, _ => by simp [evCode] at hev
  | k + 1, b, live, b', s, ex, s2, a, w, Q, hok, hev, h, hQ => by
    simp only [evCode] at hev
    split at hev
    · rename_i s' hb
      refine loopR_step (code_ok hm hC k b b' _ .nrm s' a w _ hok hb (h.keep live).norm (fun a w h' => ?_))
      exact loop_ok hm hC k b live b' s' ex s2 a w Q hok hev h' hQ
    · rename_i hb
      refine loopR_step (code_ok hm hC k b b' _ ex s2 a w _ hok hev (h.keep live).norm (fun a w h' => ?_))
      have := hQ a w h'
      cases ex with
      | nrm => exact absurd hev (hb s2)
      | exit id => exact this
      | ret => exact this
end
end
end Pv

set_option linter.unusedVariables false
set_option linter.unusedSimpArgs false
namespace Pv
open Go
theorem isBox_hi {i : Nat} (h : 30000 ≤ i) : isBox i = false := by
  have : ¬ i < 30000 := by omega
  simp [isBox, this]
theorem get_args : ∀ (args : List T) (k i : Nat), (startArgs k args).get i = if k ≤ i then (args[i - k]?).map (fun t => (t, 0)) else none
  | [], k, i => by simp [startArgs, St.get]
  | t :: ts, k, i => by
    simp only [startArgs, St.get]
    by_cases h : k = i
    · subst h; simp
    · rw [if_neg h, get_args ts (k + 1) i]
      by_cases h2 : k ≤ i
      · rw [if_pos h2, if_pos (by omega)]
        rw [show i - k = (i - (k + 1)) + 1 from by omega, List.getElem?_cons_succ]
      · rw [if_neg h2, if_neg (by omega)]
theorem extAt_ge (j : Nat) (row : List V) : 10000 ≤ extAt j row := by rw [extAt_mp]; split <;> omega
theorem extAt_inj {j k : Nat} {r q : List V} (hj : j < 20000) (hk : k < 20000) (h : extAt j r = extAt k q) : j = k := by
  rw [extAt_mp, extAt_mp] at h
  split at h <;> split at h <;> omega
theorem get_ext : ∀ (rows : List (List V)) (k i : Nat) (x : Slot), (startExt k rows).get i = some x → ∃ j row, rows[j]? = some row ∧ i = extAt (k + j) row ∧ x = (extT (k + j) row, 0)
  | [], k, i, x, h => by simp [startExt, St.get] at h
  | r :: rs, k, i, x, h => by
    simp only [startExt, St.get] at h
    by_cases e : extAt k r = i
    · rw [if_pos e] at h
      simp only [Option.some.injEq] at h
      exact ⟨0, r, rfl, by simp [e], by simp [← h]⟩
    · rw [if_neg e] at h
      obtain ⟨j, row, h1, h2, h3⟩ := get_ext rs (k + 1) i x h
      exact ⟨j + 1, row, by simpa using h1, by rw [h2]; congr 1; omega, by rw [h3]; congr 2; omega⟩
theorem get_ext_at : ∀ (rows : List (List V)) (k j : Nat) (row : List V), k + rows.length ≤ 20000 → rows[j]? = some row → (startExt k rows).get (extAt (k + j) row) = some (extT (k + j) row, 0)
  | [], k, j, row, _, h => by simp at h
  | r :: rs, k, 0, row, hl, h => by
    simp only [List.getElem?_cons_zero, Option.some.injEq] at h
    subst h
    simp [startExt, St.get]
  | r :: rs, k, j + 1, row, hl, h => by
    simp only [List.length_cons] at hl
    have hj := (List.getElem?_eq_some_iff.1 h).1
    simp only [List.length_cons] at hj
    have hne : extAt k r ≠ extAt (k + (j + 1)) row := fun e => by
      have := extAt_inj (by omega) (by omega) e
      omega
    simp only [startExt, St.get, if_neg hne]
    rw [show k + (j + 1) = k + 1 + j from by omega]
    exact get_ext_at rs (k + 1) j row (by omega) (by simpa using h)
theorem get_io : ∀ (io : List (Nat × Nat × Bool)) (rows : List (List V)) (s s0 : St), (io.map (·.1)).Nodup → startIo s io rows = some s0 → rows.length = io.length ∧ (∀ i, i ∉ io.map (·.1) → s0.get i = s.get i) ∧
    ∀ (k : Nat) (x : Nat × Nat × Bool) (row : List V), io[k]? = some x → rows[k]? = some row → ∃ t, mkT row x.2.2 = some t ∧ s0.get x.1 = some (t, 0)
  | [], [], s, s0, _, h => by
    simp only [startIo, Option.some.injEq] at h
    subst h; simp
  | (i, b, ag) :: io, r :: rs, s, s0, hn, h => by
    simp only [startIo] at h
    split at h
    case h_2 => simp at h
    rename_i t ht
    simp only [List.map_cons, List.nodup_cons] at hn
    obtain ⟨k1, k2, k3⟩ := get_io io rs _ s0 hn.2 h
    refine ⟨by simp [k1], fun j hj => ?_, fun k x row hx hrow => ?_⟩
    · simp only [List.map_cons, List.mem_cons, not_or] at hj
      rw [k2 j hj.2, get_set_ne _ _ (fun e => hj.1 e.symm)]
    · cases k with
      | zero =>
        simp only [List.getElem?_cons_zero, Option.some.injEq] at hx hrow
        subst hx; subst hrow
        exact ⟨t, ht, by rw [k2 i hn.1, get_set_same]⟩
      | succ k => exact k3 k x row (by simpa using hx) (by simpa using hrow)
  | [], _ :: _, _, _, _, h => by simp [startIo] at h
  | _ :: _, [], _, _, _, h => by simp [startIo] at h
section
variable {P : Program} {E E2 E3 : Env} {w w2 : World} {β β2 : Nat → Option Nat} {s s2 : St} {tm : Array Value} {g g2 : Nat → List Nat} {cx : Cx} {C : Orc}
theorem cvOf_start {cvs : Array Value} {m i : Nat} (hm : i < 5000) {cv : Value} (h : cvs[i]? = some cv) : cvOf (cvs ++ Array.replicate m undef) i = cv := by
  rw [cvOf_low hm]
  have hi := (Array.getElem?_eq_some_iff.1 h).1
  have h2 : (cvs ++ Array.replicate m undef)[i]? = some cv := by rw [Array.getElem?_append_left hi]; exact h
  simp [h2]
theorem isMp_extT {j : Nat} {row : List V} (h : T.isMp row = false) : extT j row = .agg row := by
  unfold extT
  split
  · simp [T.isMp] at h
  · rfl
theorem start_ok {io : List Nat} {args : List T} {ext : List (List V)} {cvs : Array Value} {F : List (List Nat)} (B : BdIn E w β io args ext cvs F) {fio : List (Nat × Nat × Bool)} (hio : io = fio.map (·.1)) (hn : args.length < 5000)
    (hfl : ∀ x ∈ fio, ∃ t, args[x.1]? = some t ∧ t.isAgg = x.2.2) {s0 : St} (h : startIo (startArgs 0 args ++ startExt 0 (ext.take (ext.length - fio.length))) fio (ext.drop (ext.length - fio.length)) = some s0) (m : Nat) :
    ∃ g0, Inv E w β s0 (cvs ++ Array.replicate m undef) g0 ∧ (∀ i x, s0.get i = some x → i < args.length ∨ ∃ j row, j < ext.length - io.length ∧ ext[j]? = some row ∧ i = extAt j row) ∧ (∀ i b, b ∈ g0 i → b ∈ F.flatten) := by
  have hl : fio.length = io.length := by rw [hio]; simp
  rw [hl] at h
  have hnd : (fio.map (·.1)).Nodup := by rw [← hio]; exact B.ioDup
  obtain ⟨r1, r2, r3⟩ := get_io _ _ _ _ hnd h
  have hfew := B.few
  have hnF := B.nF
  have hnio := B.nio
  have htl : (ext.take (ext.length - io.length)).length = ext.length - io.length := by rw [List.length_take]; omega
  have hbase : ∀ i, (startArgs 0 args ++ startExt 0 (ext.take (ext.length - io.length))).get i = ((args[i]?).map (fun t => (t, 0))).or ((startExt 0 (ext.take (ext.length - io.length))).get i) := by
    intro i; rw [get_app, get_args]; simp
  have hshape : ∀ i x, s0.get i = some x → (i ∈ io ∧ i < args.length) ∨ (i ∉ io ∧ ∃ t, args[i]? = some t ∧ x = (t, 0)) ∨ (i ∉ io ∧ ∃ j row, j < ext.length - io.length ∧ ext[j]? = some row ∧ i = extAt j row ∧ x = (extT j row, 0)) := by
    intro i x hx
    by_cases hi : i ∈ io
    · left
      refine ⟨hi, ?_⟩
      rw [hio] at hi
      obtain ⟨y, hy, rfl⟩ := List.mem_map.1 hi
      obtain ⟨t, ht, _⟩ := hfl y hy
      exact (List.getElem?_eq_some_iff.1 ht).1
    · right
      rw [r2 i (by rw [← hio]; exact hi), hbase] at hx
      cases ha : args[i]? with
      | some t =>
        rw [ha] at hx
        simp only [Option.map_some, Option.some_or, Option.some.injEq] at hx
        exact .inl ⟨hi, t, rfl, hx.symm⟩
      | none =>
        rw [ha] at hx
        simp only [Option.map_none, Option.none_or] at hx
        obtain ⟨j, row, h1, h2, h3⟩ := get_ext _ _ _ _ hx
        rw [Nat.zero_add] at h2 h3
        have hjl := (List.getElem?_eq_some_iff.1 h1).1
        rw [htl] at hjl
        rw [List.getElem?_take_of_lt hjl] at h1
        exact .inr ⟨hi, j, row, hjl, h1, h2, h3⟩
  let Ix : Nat → Nat → Prop := fun i n => (∃ row, n < ext.length - io.length ∧ ext[n]? = some row ∧ i = extAt n row) ∨ (∃ k, n = ext.length - io.length + k ∧ io[k]? = some i)
  have hFat : ∀ n, n < ext.length → ∃ G, F[n]? = some G := fun n hn => ⟨F[n]'(by omega), by simp⟩
  have each : ∀ i, ∃ gi : List Nat, (∀ t v, s0.get i = some (t, v) → RootS E w β (cvs ++ Array.replicate m undef) i t gi ∨ (isBox i = false ∧ TOk E w β [] #[] t (cvOf (cvs ++ Array.replicate m undef) i) gi ∧ t.still = true)) ∧ (s0.get i = none → gi = []) ∧ gi.Nodup ∧ (∀ b ∈ gi, ∃ n G, F[n]? = some G ∧ Ix i n ∧ b ∈ G) := by
    intro i
    cases hx : s0.get i with
    | none => exact ⟨[], by simp, fun _ => rfl, by simp, by simp⟩
    | some x =>
      obtain ⟨tx, vx⟩ := x
      rcases hshape i _ hx with ⟨hi, hil⟩ | ⟨hi, t, ht, e⟩ | ⟨hi, j, row, hj, hrow, rfl, e⟩
      · obtain ⟨k, hk⟩ := List.getElem?_of_mem hi
        have hkl := (List.getElem?_eq_some_iff.1 hk).1
        obtain ⟨y, hy⟩ : ∃ y, fio[k]? = some y := ⟨fio[k]'(by omega), by simp⟩
        have hyi : y.1 = i := by
          have : io[k]? = some y.1 := by rw [hio, List.getElem?_map, hy]; rfl
          rw [hk] at this
          exact (Option.some.inj this).symm
        obtain ⟨row, hrow⟩ : ∃ row, ext[ext.length - io.length + k]? = some row := ⟨ext[ext.length - io.length + k]'(by omega), by simp⟩
        obtain ⟨G, hG⟩ := hFat (ext.length - io.length + k) (by omega)
        obtain ⟨t, cv, q1, q2, cs, q3, q4, q5⟩ := B.ios k i row G hk hrow hG
        obtain ⟨t', h1, h2⟩ := r3 k y row hy (by rw [List.getElem?_drop]; exact hrow)
        rw [hyi, hx] at h2
        simp only [Option.some.injEq, Prod.mk.injEq] at h2
        obtain ⟨rfl, rfl⟩ := h2
        obtain ⟨t2, ht2, hag⟩ := hfl y (List.mem_of_getElem? hy)
        rw [hyi, q1] at ht2
        obtain rfl := Option.some.inj ht2
        rw [hag] at q3
        have hGm := List.mem_of_getElem? hG
        have hGnd := (List.pairwise_flatten.1 B.nd).1 G hGm
        obtain ⟨z1, z2, _⟩ := mkT_solid' h1 q3 q4
        refine ⟨G, fun t v hh => ?_, by simp, hGnd, fun b hb => ⟨_, G, hG, .inr ⟨k, rfl, hk⟩, hb⟩⟩
        simp only [Option.some.injEq, Prod.mk.injEq] at hh
        obtain ⟨rfl, _⟩ := hh
        refine .inr ⟨isBox_low (by omega), ?_, ?_⟩
        · rw [cvOf_start (by omega) q2]; exact z2
        · cases tx <;> simp [T.solid] at z1 <;> rfl
      · simp only [Prod.mk.injEq] at e
        obtain ⟨rfl, rfl⟩ := e
        obtain ⟨cv, q1, q2, q3⟩ := B.arg i tx ht hi
        have hil := (List.getElem?_eq_some_iff.1 ht).1
        refine ⟨[], fun t v hh => ?_, by simp, by simp, by simp⟩
        simp only [Option.some.injEq, Prod.mk.injEq] at hh
        obtain ⟨rfl, _⟩ := hh
        refine .inr ⟨isBox_low (by omega), ?_, ?_⟩
        · rw [cvOf_start (by omega) q1]; exact q3
        · cases tx <;> simp [T.solid] at q2 <;> rfl
      · simp only [Prod.mk.injEq] at e
        obtain ⟨rfl, rfl⟩ := e
        obtain ⟨G, hG⟩ := hFat j (by omega)
        have hB := B.box j row G hj hrow hG
        have hGnd := (List.pairwise_flatten.1 B.nd).1 G (List.mem_of_getElem? hG)
        refine ⟨G, fun t v hh => ?_, by simp, hGnd, fun b hb => ⟨j, G, hG, .inl ⟨row, hj, hrow, rfl⟩, hb⟩⟩
        simp only [Option.some.injEq, Prod.mk.injEq] at hh
        obtain ⟨rfl, _⟩ := hh
        by_cases hmp : T.isMp row = true
        · obtain ⟨ka, va, ks, vs, rfl⟩ := isMp_iff.1 hmp
          rw [brow_mp] at hB
          obtain ⟨b, es, clk, h1, h2, h3, h4, h5⟩ := hB
          right
          refine ⟨isBox_hi (by show 30000 ≤ 610000 + j; omega), ?_, rfl⟩
          simp only [extT, TOk]
          exact ⟨b, es, clk, h1, h2, h3, h4, h5⟩
        · have hmp : T.isMp row = false := by simpa using hmp
          rw [brow_agg hmp] at hB
          obtain ⟨b, cs, f0, h1, h2, h3, h4, h5, h6⟩ := hB
          left
          have hat : extAt j row = 10000 + j := by rw [extAt_mp, hmp]; rfl
          have hbx : isBox (extAt j row) = true := by
            rw [hat]
            have h1 : 5000 ≤ 10000 + j := by omega
            have h2 : 10000 + j < 30000 := by omega
            simp [isBox, h1, h2]
          unfold RootS
          rw [if_pos hbx, isMp_extT hmp, hat]
          exact ⟨b, cs, f0, row, h1, rfl, h2, h3, h4, h5, h6⟩
  obtain ⟨g0, hg0⟩ := Classical.axiomOfChoice each
  have hixn : ∀ i j n, Ix i n → Ix j n → i = j := by
    intro i j n h1 h2
    rcases h1 with ⟨row, a1, a2, a3⟩ | ⟨k, a1, a2⟩
    · rcases h2 with ⟨row', b1, b2, b3⟩ | ⟨k', b1, b2⟩
      · rw [a2] at b2
        obtain rfl := Option.some.inj b2
        rw [a3, b3]
      · omega
    · rcases h2 with ⟨row', b1, b2, b3⟩ | ⟨k', b1, b2⟩
      · omega
      · obtain rfl : k = k' := by omega
        rw [a2] at b2
        exact Option.some.inj b2
  refine ⟨g0, ⟨?_, fun i hi => (hg0 i).2.1 hi, ?_, fun i => (hg0 i).2.2.1, ?_, ?_, B.small⟩, ?_, ?_⟩
  · intro i t v hi
    rcases (hg0 i).1 t v hi with h1 | ⟨h1, h2, h3⟩
    · unfold RootS at h1
      unfold RootOk
      split
      · rename_i hb; rw [if_pos hb] at h1; exact h1
      · rename_i hb; rw [if_neg hb] at h1; exact tok_still h1.2 h1.1
    · unfold RootOk
      rw [if_neg (by simp [h1])]
      exact tok_still h3 h2
  · intro i b hb
    obtain ⟨n, G, h1, _, h2⟩ := (hg0 i).2.2.2 b hb
    exact B.own b (List.mem_flatten.2 ⟨G, List.mem_of_getElem? h1, h2⟩)
  · intro i j hij b hb hb2
    obtain ⟨n, G, h1, h2, h3⟩ := (hg0 i).2.2.2 b hb
    obtain ⟨n', G', h1', h2', h3'⟩ := (hg0 j).2.2.2 b hb2
    have hne : n ≠ n' := by rintro rfl; exact hij (hixn i j n h2 h2')
    have hp := (List.pairwise_flatten.1 B.nd).2
    rw [List.pairwise_iff_getElem] at hp
    obtain ⟨e1, e2⟩ := List.getElem?_eq_some_iff.1 h1
    obtain ⟨e3, e4⟩ := List.getElem?_eq_some_iff.1 h1'
    rcases Nat.lt_or_gt_of_ne hne with hlt | hlt
    · have := hp n n' e1 e3 hlt
      rw [e2, e4] at this
      exact this b h3 b h3' rfl
    · have := hp n' n e3 e1 hlt
      rw [e2, e4] at this
      exact this b h3' b h3 rfl
  · intro i b hb
    obtain ⟨j, row, hj, hrow, rfl⟩ := B.only i b hb
    have hni : extAt j row ∉ fio.map (·.1) := by
      intro hm
      obtain ⟨y, hy, e⟩ := List.mem_map.1 hm
      obtain ⟨t, ht, _⟩ := hfl y hy
      have := (List.getElem?_eq_some_iff.1 ht).1
      have := extAt_ge j row
      omega
    have hget : s0.get (extAt j row) = some (extT j row, 0) := by
      rw [r2 _ hni, hbase]
      have hnone : args[extAt j row]? = none := by
        rw [List.getElem?_eq_none_iff]
        have := extAt_ge j row
        omega
      rw [hnone]
      simp only [Option.map_none, Option.none_or]
      have := get_ext_at (ext.take (ext.length - io.length)) 0 j row (by omega) (by rw [List.getElem?_take_of_lt hj]; exact hrow)
      rw [Nat.zero_add] at this; exact this
    refine ⟨?_, by rw [hget]; rfl⟩
    by_cases hmp : T.isMp row = true
    · obtain ⟨ka, va, ks, vs, rfl⟩ := isMp_iff.1 hmp
      right
      refine ⟨by show 600000 ≤ 610000 + j; omega, ka, va, ks, vs, 0, ?_⟩
      rw [hget]; rfl
    · left
      rw [extAt_mp, show T.isMp row = false from by simpa using hmp]
      have h1 : 5000 ≤ 10000 + j := by omega
      have h2 : 10000 + j < 30000 := by omega
      simp [isBox, h1, h2]
  · intro i x hx
    rcases hshape i x hx with ⟨_, h⟩ | ⟨_, t, ht, _⟩ | ⟨_, j, row, h1, h2, h3, _⟩
    · exact .inl h
    · exact .inl (List.getElem?_eq_some_iff.1 ht).1
    · exact .inr ⟨j, row, h1, h2, h3⟩
  · intro i b hb
    obtain ⟨n, G, h1, _, h2⟩ := (hg0 i).2.2.2 b hb
    exact List.mem_flatten.2 ⟨G, List.mem_of_getElem? h1, h2⟩
end
end Pv

set_option linter.unusedVariables false
set_option linter.unusedSimpArgs false
namespace Pv
open Go
def okRes (P : Program) : ResultVar → Rs → Bool
  | .tmp t, .t i => t == i && decide (i < 5000)
  | .cell a ty, .c a' none => a == a' && decide (a < 5000) && sizeOne P ty
  | .cell a ty, .c a' (some n) => a == a' && decide (a < 5000) && aggIs P ty n
  | _, _ => false
def okRess (P : Program) : List ResultVar → List Rs → Bool
  | [], [] => true
  | a :: r, b :: q => okRes P a b && okRess P r q
  | _, _ => false
def resVal (P : Program) (tm : Array Value) : ResultVar → Sem Value
  | .tmp t => pure (tm.getD t undef)
  | .cell a t => do loadVar t (← asAddr (tm.getD a undef))
section
variable {P : Program} {E E2 E3 : Env} {w w2 : World} {β β2 : Nat → Option Nat} {s s2 : St} {tm : Array Value} {g g2 : Nat → List Nat} {cx : Cx} {C : Orc}
theorem readRes_ok (hI : Inv E w β s tm g) {rv : ResultVar} {rs : Rs} {t : T} (hok : okRes P rv rs = true) (h : readRes s cx rs = some (t, s2)) :
    ∃ cv E2 g2 f, Hand cx E w β s tm g s2 E2 g2 f ∧ t.solid = true ∧ TOk E2 w β [] #[] t cv f ∧ (resVal P tm rv).run P w = .ok cv w := by
  unfold okRes at hok
  split at hok
  · rename_i i i'
    simp only [Bool.and_eq_true, beq_iff_eq, decide_eq_true_eq] at hok
    obtain ⟨rfl, hi⟩ := hok
    simp only [readRes] at h
    split at h
    case h_2 => simp at h
    rename_i r ag u m ht
    split at h
    case h_2 => simp at h
    rename_i t' hmk
    simp only [Option.some.injEq, Prod.mk.injEq] at h
    obtain ⟨rfl, rfl⟩ := h
    obtain ⟨cs, E2, g2, f, k1, k2⟩ := take_ok (cx := cx) hI (x := .tmp i) (X := .t i) ⟨rfl, hi⟩ ht
    obtain ⟨z1, z2, _⟩ := mkT_solid' hmk k1 k2.rep
    exact ⟨ev tm (.tmp i), E2, g2, f, k2.hand (List.Sublist.refl _), z1, z2, rfl⟩
  · rename_i a ty a'
    simp only [Bool.and_eq_true, beq_iff_eq, decide_eq_true_eq] at hok
    obtain ⟨⟨rfl, ha⟩, hty⟩ := hok
    obtain ⟨d, hd1, hd2⟩ := sizeOne_ok hty
    simp only [readRes] at h
    split at h
    case h_2 => simp at h
    rename_i r o v0 hg
    split at h
    case h_2 => simp at h
    rename_i v hcell
    split at h
    case h_2 => simp at h
    rename_i r' ag u m ht
    split at h
    case h_2 => simp at h
    rename_i t' hmk
    simp only [Option.some.injEq, Prod.mk.injEq] at h
    obtain ⟨rfl, rfl⟩ := h
    have hroot := hI.roots a _ _ hg
    simp only [RootOk, isBox_low ha, Bool.false_eq_true, if_false, TOk, Rep, RepP] at hroot
    obtain ⟨_, b, hβ, hcv⟩ := hroot
    obtain ⟨r0, o0, hp0, hc0⟩ := cell_place hcell
    have hopd : OpdOk (.tmp a) (.t a) := ⟨rfl, ha⟩
    have hopv : s.opv (.t a) = some (.one (.ptr r o)) := by simp [St.opv, hg]
    obtain ⟨b', o', e1, e2, e3, e4⟩ := addr_ok hI (p := ⟨r, o, [], s.ver r⟩) hopd (by simp [addrPl, hopv]) (by rw [hp0]; rfl)
    have hnd : v ≠ .dead := by
      rintro rfl
      simp [St.takeAt, V.isDead] at ht
    obtain ⟨c, f, k1, k2, k3⟩ := cell_rep hI hcell hnd
    obtain ⟨q1, q2, E2, g2, f2, q3⟩ := tkn_of (cx := cx) hI (cells_one hcell) (cs := [c]) (by simp) (by
      intro k x y hx hy hd
      cases k with
      | succ k => simp at hx
      | zero =>
        simp only [List.getElem?_cons_zero, Option.some.injEq] at hx hy
        subst hx; subst hy
        by_cases hn : v.noOwn = true
        · have := noOwn_fp hn k2
          subst this; exact .inl ⟨hn, k2⟩
        · exact .inr ⟨own_of (by simpa using hn) hnd k2, rfl, by rw [shift_zero]; exact k1⟩) ht
    obtain ⟨z1, z2, _⟩ := mkT_solid' hmk (cv := c) (cs := [c]) (by rw [q1]; simp [cellsAre]) q3.rep
    refine ⟨c, E2, g2, f2, q3.hand (List.Sublist.refl _), z1, z2, ?_⟩
    have hval := val_addr (tm := tm) e4 e2
    rw [k1] at hval
    have hev : tm.getD a undef = .pointer (some ⟨b', o', none⟩) := e1
    simp only [resVal, hev, asAddr]
    rw [Sem.run_bind]
    simp only [Sem.run_pure, Result.andThen_ok]
    exact run_load1 w hd1 hd2 hval.symm
  · rename_i a ty a' n
    simp only [Bool.and_eq_true, beq_iff_eq, decide_eq_true_eq] at hok
    obtain ⟨⟨rfl, ha⟩, hty⟩ := hok
    obtain ⟨d, i, hd1, hd2, hd3, hd4⟩ := aggIs_ok hty
    simp only [readRes] at h
    split at h
    case h_2 => simp at h
    rename_i r o v0 hg
    split at h
    case h_2 => simp at h
    rename_i q hcells
    split at h
    case h_2 => simp at h
    rename_i r' ag u m ht
    split at h
    case h_2 => simp at h
    rename_i t' hmk
    simp only [Option.some.injEq, Prod.mk.injEq] at h
    obtain ⟨rfl, rfl⟩ := h
    have hopd : OpdOk (.tmp a) (.t a) := ⟨rfl, ha⟩
    have hopv : s.opv (.t a) = some (.one (.ptr r o)) := by simp [St.opv, hg]
    obtain ⟨r0, o0, hp0, hl0, hq0⟩ := cells_place hcells
    obtain ⟨b', o', e1, e2, e3, e4⟩ := addr_ok hI (p := ⟨r, o, [], s.ver r⟩) hopd (by simp [addrPl, hopv]) (by rw [hp0]; rfl)
    obtain ⟨cs, f, k1, k2, m2, k3, k4, k5⟩ := cells_mem hI hcells e2 e4
    obtain ⟨q1, q2, E2, g2, f2, q3⟩ := tkn_of (cx := cx) (r := q) (q := q) hI (by rw [k2]; exact hcells) (cs := cs) k1.len (by
      intro k x y hx hy hd
      obtain ⟨c1, c', c2, f1, gq, f3, e1, e2, e3, e4, _, _⟩ := k1.at hx
      have : y = c' := by rw [e1, ← e3] at hy; simpa using hy.symm
      subst this
      by_cases hn : x.noOwn = true
      · have := noOwn_fp hn e4
        subst this; exact .inl ⟨hn, e4⟩
      · exact .inr ⟨own_of (by simpa using hn) hd e4, hx, by rw [k4 k x hx hd]; exact hy⟩) ht
    obtain ⟨z1, z2, _⟩ := mkT_solid' hmk (cv := .agg cs.toArray) (cs := cs) (by rw [q1]; simp [cellsAre]) q3.rep
    refine ⟨.agg cs.toArray, E2, g2, f2, q3.hand (List.Sublist.refl _), z1, z2, ?_⟩
    have hev : tm.getD a undef = .pointer (some ⟨b', o', none⟩) := e1
    simp only [resVal, hev, asAddr]
    rw [Sem.run_bind]
    simp only [Sem.run_pure, Result.andThen_ok]
    exact run_loadN w hd1 hd2 hd3 (by rw [k1.len, k2, hd4]) m2
  · simp at hok
theorem readAll_ok : ∀ {rvs : List ResultVar} {rss : List Rs} {E : Env} {s s2 : St} {g : Nat → List Nat} {ts : List T}, Inv E w β s tm g → okRess P rvs rss = true → readAll s cx rss = some (ts, s2) →
    ∃ (vs : List Value) (E2 : Env) (g2 : Nat → List Nat) (fs : List (List Nat)), Hand cx E w β s tm g s2 E2 g2 fs.flatten ∧ ts.all T.solid = true ∧ vs.length = ts.length ∧ fs.length = ts.length ∧
      (∀ (k : Nat) (t : T) (v : Value) (f : List Nat), ts[k]? = some t → vs[k]? = some v → fs[k]? = some f → TOk E2 w β [] #[] t v f) ∧ (rvs.mapM (resVal P tm)).run P w = .ok vs w
  | [], [], E, s, s2, g, ts, hI, _, h => by
    simp only [readAll, Option.some.injEq, Prod.mk.injEq] at h
    obtain ⟨rfl, rfl⟩ := h
    exact ⟨[], E, g, [], Hand.refl hI, rfl, rfl, rfl, by simp, by simp⟩
  | rv :: rvs, rs :: rss, E, s, s2, g, ts, hI, hok, h => by
    simp only [okRess, Bool.and_eq_true] at hok
    simp only [readAll] at h
    split at h
    case h_2 => simp at h
    rename_i t s' ht
    split at h
    case h_2 => simp at h
    rename_i ts' s'' hts
    simp only [Option.some.injEq, Prod.mk.injEq] at h
    obtain ⟨rfl, rfl⟩ := h
    obtain ⟨cv, E1, g1, f, k1, k2, k3, k4⟩ := readRes_ok (cx := cx) hI hok.1 ht
    obtain ⟨vs, E2, g2, fs, m1, m2, m3, m4, m5, m6⟩ := readAll_ok k1.inv hok.2 hts
    obtain ⟨H, hdis⟩ := k1.then m1
    have hst : Stp E1 w E2 w := m1.fr.stp k1.inv
    refine ⟨cv :: vs, E2, g2, f :: fs, ?_, by simp [k2, m2], by simp [m3], by simp [m4], ?_, ?_⟩
    · simp only [List.flatten_cons]
      refine ⟨H.inv, H.fr.lift ?_, ?_, ?_, ?_, H.box⟩
      · intro b hb
        simp only [List.flatten_cons, List.flatten_nil, List.append_nil] at hb
        exact H.fr.res b (by simp only [List.flatten_cons, List.flatten_nil, List.append_nil]; rw [List.mem_append] at hb ⊢; exact hb.symm)
      · rw [List.nodup_append]
        exact ⟨k1.nd, m1.nd, fun a ha b hb e => hdis a ha (by rw [e]; exact hb)⟩
      · exact fun b hb => H.own b (by rw [List.mem_append] at hb ⊢; exact hb.symm)
      · exact fun j b hb => H.dis j b (by rw [List.mem_append] at hb ⊢; exact hb.symm)
    · intro k t' v' f' h1 h2 h3
      cases k with
      | zero =>
        simp only [List.getElem?_cons_zero, Option.some.injEq] at h1 h2 h3
        subst h1; subst h2; subst h3
        cases t <;> simp [T.solid] at k2
        · simp only [TOk] at k3 ⊢; exact k3.frame hst (fun _ _ h => h) _ _ _ (fun _ _ => rfl)
        · simp only [TOk] at k3 ⊢
          obtain ⟨cs, e, k3⟩ := k3
          exact ⟨cs, e, k3.frame hst (fun _ _ h => h) _ _ _ (fun _ _ => rfl)⟩
      | succ k => exact m5 k t' v' f' (by simpa using h1) (by simpa using h2) (by simpa using h3)
    · simp only [List.mapM_cons, Sem.run_bind, k4, Result.andThen_ok, m6]
      rfl
  | [], _ :: _, _, _, _, _, _, _, hok, _ => by simp [okRess] at hok
  | _ :: _, [], _, _, _, _, _, _, hok, _ => by simp [okRess] at hok
theorem run_results {fn : Func} {tms : Array Value} {vs : List Value} (h : (fn.results.toList.mapM (resVal P tms)).run P w = .ok vs w) : (results fn tms).run P w = .ok (if h : vs.toArray.size = 1 then vs.toArray[0] else .tuple vs.toArray) w := by
  have e : fn.results.mapM (resVal P tms) = List.toArray <$> fn.results.toList.mapM (resVal P tms) := by
    conv => lhs; rw [← Array.toArray_toList (xs := fn.results)]
    rw [List.mapM_toArray]
  have e2 : (fn.results.mapM (resVal P tms)).run P w = .ok vs.toArray w := by
    rw [e]
    simp only [map_eq_pure_bind, Sem.run_bind, h, Result.andThen_ok]
    rfl
  have e3 : results fn tms = (do let vs ← fn.results.mapM (resVal P tms); pure (if h : vs.size = 1 then vs[0] else .tuple vs)) := by
    unfold results
    congr 1
  rw [e3, Sem.run_bind, e2]
  rfl
theorem extRows_ok : ∀ {ext : List (List V)} {k : Nat} {e1 : List (List V)}, extRows s k ext = some e1 → e1.length = ext.length ∧ ∀ (j : Nat) (row row0 : List V), ext[j]? = some row0 → e1[j]? = some row → s.boxRow (extAt (k + j) row0) = some row
  | [], k, e1, h => by
    simp only [extRows, Option.some.injEq] at h
    subst h; simp
  | r :: rs, k, e1, h => by
    simp only [extRows] at h
    split at h
    case h_2 => simp at h
    rename_i x xs h1 h2
    obtain rfl := Option.some.inj h
    obtain ⟨k1, k2⟩ := extRows_ok h2
    refine ⟨by simp [k1], fun j row row0 ha hb => ?_⟩
    cases j with
    | zero =>
      simp only [List.getElem?_cons_zero, Option.some.injEq] at ha hb
      subst ha; subst hb; exact h1
    | succ j =>
      have := k2 j row row0 (by simpa using ha) (by simpa using hb)
      rwa [show k + (j + 1) = k + 1 + j from by omega]
theorem ioOut_ok : ∀ {fio : List (Nat × Nat × Bool)} {rows e2 : List (List V)}, ioOut s fio rows = some e2 → e2.length = fio.length ∧ ∀ (k : Nat) (x : Nat × Nat × Bool) (row0 row : List V), fio[k]? = some x → rows[k]? = some row0 → e2[k]? = some row →
    ∃ t v, s.get x.2.1 = some (t, v) ∧ t.row? = some row ∧ row.length = row0.length ∧ (x.2.1 = x.1 → t.isAgg = x.2.2) ∧ (x.2.2 = false → ∀ v ∈ row0, v ≠ .dead)
  | [], [], e2, h => by
    simp only [ioOut, Option.some.injEq] at h
    subst h; simp
  | [], _ :: _, e2, h => by simp [ioOut] at h
  | _ :: _, [], e2, h => by simp [ioOut] at h
  | (i, r, ag) :: rs, r0 :: rows, e2, h => by
    simp only [ioOut] at h
    split at h
    case h_2 => simp at h
    rename_i x xs h1 h2
    split at h
    case h_2 => simp at h
    rename_i row1 hrow1
    split at h
    case isFalse => simp at h
    rename_i hc
    simp only [Bool.and_eq_true, Bool.or_eq_true, bne_iff_ne, ne_eq, beq_iff_eq] at hc
    obtain ⟨⟨hc1, hc2⟩, hc3⟩ := hc
    obtain rfl := Option.some.inj h
    obtain ⟨k1, k2⟩ := ioOut_ok h2
    refine ⟨by simp [k1], fun j y row0 row ha hb hd => ?_⟩
    cases j with
    | zero =>
      simp only [List.getElem?_cons_zero, Option.some.injEq] at ha hb hd
      subst ha; subst hb; subst hd
      refine ⟨x.1, x.2, h1, hrow1, hc2, fun e => hc1.resolve_left (fun hn => hn e), fun e v hv => ?_⟩
      have := List.all_eq_true.1 (hc3.resolve_left (by simpa using e)) v hv
      rintro rfl
      simp [V.isDead] at this
    | succ j => exact k2 j y row0 row (by simpa using ha) (by simpa using hb) (by simpa using hd)
theorem row_get {r : Nat} {row : List V} (h : s.row r = some row) : ∃ t v, s.get r = some (t, v) ∧ t.row? = some row := by
  unfold St.row at h
  split at h
  · rename_i x hx; exact ⟨x.1, x.2, hx, h⟩
  · simp at h
end
end Pv

set_option linter.unusedVariables false
set_option linter.unusedSimpArgs false
namespace Pv
open Go
def okFn (P : Program) (f : Nat) (fn : Fn) : Bool := match P.funcs[f]? with
  | some F => F.name != "runtime.NumGoroutine" && (match F.body with | some c => okCode P F.ntmps c fn.code | none => false) && okRess P F.results.toList fn.results && decide (fn.nparams < 5000) && decide (fn.nparams ≤ F.ntmps) &&
      decide ((fn.io.map (·.2.1)).Nodup) && fn.io.all (fun x => x.2.1 == x.1 || (decide (5000 ≤ x.2.1) && decide (x.2.1 < 10000)))
  | none => false
def outB (β : Nat → Option Nat) (nr : Option Nat) (r : Nat) : Option Nat := if r = 20000 then (match nr with | some x => β x | none => none) else if isExt r then β r else none
theorem isExt_iff {r : Nat} : isExt r = true ↔ ExtR r := by
  unfold isExt ExtR
  simp only [Bool.or_eq_true, Bool.and_eq_true, decide_eq_true_eq]
  exact ⟨fun h => h.symm, fun h => h.symm⟩
section
variable {P : Program} {E E2 E3 : Env} {w w2 : World} {β β2 : Nat → Option Nat} {s s2 : St} {tm : Array Value} {g g2 : Nat → List Nat} {cx : Cx} {C : Orc}
theorem extAt_ext {j : Nat} {row : List V} (h : j < 10000) : ExtR (extAt j row) ∧ extAt j row ≠ 20000 := by
  unfold ExtR
  rw [extAt_mp]
  split <;> omega
theorem tok_beta {t : T} {cv : Value} {f : List Nat} (hs : t.solid = true) (hb : ∀ r ∈ ptrsT t, β2 r = β r) (h : TOk E w β [] #[] t cv f) : TOk E w β2 [] #[] t cv f := by
  cases t <;> simp [T.solid] at hs
  · simp only [TOk] at h ⊢; exact h.beta _ _ _ hb
  · simp only [TOk] at h ⊢
    obtain ⟨cs, e, h⟩ := h
    exact ⟨cs, e, h.beta _ _ _ hb⟩
theorem tok_ptr {t : T} {cv : Value} {f : List Nat} (hs : t.solid = true) (h : TOk E w β [] #[] t cv f) {r : Nat} (hr : r ∈ ptrsT t) : β r ≠ none := by
  cases t <;> simp [T.solid] at hs
  · simp only [TOk] at h; exact h.ptr hr
  · simp only [TOk] at h
    obtain ⟨cs, e, h⟩ := h
    exact h.ptr hr
theorem rep_cells {v : V} {c : Value} {f : List Nat} (hv : v ≠ .dead) (h : Rep E w β v c f) : c.cells.toList = [c] := by
  cases v with
  | sc x =>
    obtain ⟨rfl, h2, _⟩ := h
    cases c <;> simp [isSca] at h2 <;> rfl
  | sl l sz rows =>
    obtain ⟨a, len, cap, cs, f, e, _⟩ := h
    rw [e]; rfl
  | ptr r o =>
    obtain ⟨_, b, _, e⟩ := h
    rw [e]; rfl
  | mref r =>
    obtain ⟨_, b, _, e⟩ := h
    rw [e]; rfl
  | clo g a b =>
    obtain ⟨_, xs, ys, e, _⟩ := h
    rw [e]; rfl
  | mp ka va ks vs => exact h.elim
  | dead => exact absurd rfl hv
theorem fn_ok (hm : P.follows .mixedOrders = true) (hC : SoundC P C) {f : Nat} {fn : Fn} (hok : okFn P f fn = true) {k : Nat} {io : List Nat} {args : List T} {ext : List (List V)} {t : T} {ext2 : List (List V)} (hev : evFn C k fn io args ext = some (t, ext2)) :
    FnOk P f ∧ ∀ E w β cvs F, BdIn E w β io args ext cvs F → Calls P f cvs w fun e w2 => ∃ cv E2 β2 F2 fts, e = .returned cv ∧ BdOut E w β io args ext cvs F t ext2 cv E2 w2 β2 F2 fts := by
  unfold okFn at hok
  split at hok
  case h_2 => simp at hok
  rename_i FN hFN
  simp only [Bool.and_eq_true, decide_eq_true_eq, bne_iff_ne, ne_eq] at hok
  obtain ⟨⟨⟨⟨⟨⟨hname, hbody⟩, hres⟩, hnp⟩, hnt⟩, hrnd⟩, hrs⟩ := hok
  split at hbody
  case h_2 => simp at hbody
  rename_i c hc
  refine ⟨⟨FN, hFN, hname, by rw [hc]; rfl⟩, ?_⟩
  intro E w β cvs F B
  unfold evFn at hev
  simp only [] at hev
  split at hev
  · simp at hev
  rename_i hchk
  simp only [ne_eq, not_or, Decidable.not_not, Bool.not_eq_false] at hchk
  obtain ⟨ha, hio, hfl⟩ := hchk
  have hfl' : ∀ x ∈ fn.io, ∃ t, args[x.1]? = some t ∧ t.isAgg = x.2.2 := by
    intro x hx
    have := List.all_eq_true.1 hfl x hx
    split at this
    · rename_i r hr; exact ⟨_, hr, by simp [T.isAgg, this]⟩
    · rename_i v hr; exact ⟨_, hr, by simpa [T.isAgg] using this⟩
    · simp at this
  split at hev
  case h_2 => simp at hev
  rename_i s0 hs0
  split at hev
  · simp at hev
  case h_3 => simp at hev
  rename_i ex s hexit hcode
  split at hev
  case h_2 => simp at hev
  rename_i ts s' hread
  split at hev
  case h_2 => simp at hev
  rename_i e1 e2 he1 he2
  split at hev
  · simp at hev
  rename_i hptr
  simp only [Bool.not_eq_true, Bool.not_eq_false'] at hptr
  have hl : fn.io.length = io.length := by rw [hio]; simp
  have hfew := B.few
  have hnF := B.nF
  have hnio := B.nio
  have hcv := B.nargs
  obtain ⟨g0, I0, hsh, hg0⟩ := start_ok B hio (by omega) hfl' hs0 (FN.ntmps - cvs.size)
  have hA : ASt ⟨fn.named, fn.io.map fun x => (x.1, x.2.1)⟩ FN.ntmps E w β g0 (cvs ++ Array.replicate (FN.ntmps - cvs.size) undef) ⟨cvs ++ Array.replicate (FN.ntmps - cvs.size) undef, []⟩ w s0 := by
    refine ⟨rfl, by simp; omega, fun _ _ _ => rfl, E, β, g0, I0, Fr.refl, ?_⟩
    intro p r hpr
    obtain ⟨x, hx, e⟩ := List.mem_map.1 hpr
    simp only [Prod.mk.injEq] at e
    obtain ⟨rfl, rfl⟩ := e
    obtain ⟨t0, ht0, _⟩ := hfl' x hx
    have hxl := (List.getElem?_eq_some_iff.1 ht0).1
    refine ⟨by omega, fun hne => ?_⟩
    have := List.all_eq_true.1 hrs x hx
    simp only [Bool.or_eq_true, beq_iff_eq, Bool.and_eq_true, decide_eq_true_eq] at this
    have hr := this.resolve_left hne
    refine ⟨by simp [isBox]; omega, fun y hy => ?_⟩
    rcases hsh _ _ hy with h | ⟨j, row, _, _, e⟩
    · omega
    · have := extAt_ge j row; omega
  have hexok : ∀ Q : Exit → Act → World → Prop, ∀ a w, (Q .normal a w ∧ Q .ret a w) → Q ex.to a w := by
    intro Q a w hq
    cases ex with
    | nrm => exact hq.1
    | exit id => exact absurd rfl (hexit id)
    | ret => exact hq.2
  refine calls_of_wp hFN hc (code_ok hm hC k c fn.code s0 ex s _ w _ hbody hcode hA (fun a w2 hA' => ?_))
  obtain ⟨E2, β2, g2, I2, F2', hp2⟩ := hA'.st
  obtain ⟨vs, E3, g3, fs, H, hsol, hvl, hfl2, htok, hrun⟩ := readAll_ok I2 hres hread
  have hrun2 := run_results hrun
  have FR : Fr E w β g0 E3 w2 β2 g3 [fs.flatten] := F2'.trans H.fr
  obtain ⟨x1, x2⟩ := extRows_ok he1
  obtain ⟨y1, y2⟩ := ioOut_ok he2
  have hnr : ∀ k x, fn.io[k]? = some x → ∃ row0, (ext.drop (ext.length - fn.io.length))[k]? = some row0 ∧ ext[ext.length - io.length + k]? = some row0 := by
    intro k x hx
    have hk := (List.getElem?_eq_some_iff.1 hx).1
    refine ⟨ext[ext.length - io.length + k]'(by omega), ?_, by simp⟩
    rw [List.getElem?_drop, hl]
    simp
  have htl : (ext.take (ext.length - fn.io.length)).length = ext.length - io.length := by rw [List.length_take]; omega
  have htl' : (ext.take (ext.length - io.length)).length = ext.length - io.length := by rw [List.length_take]; omega
  have h20 : β2 20000 = none := by
    rw [FR.ext 20000 (.inl ⟨by omega, by omega⟩)]
    cases h : β 20000 with
    | none => rfl
    | some b =>
      obtain ⟨j, row, hj, _, e⟩ := B.only _ _ h
      exact absurd e.symm (extAt_ext (by omega)).2
  have hbout : ∀ nr r, β2 r ≠ none → isExt r = true → outB β2 nr r = β2 r := by
    intro nr r hr hx
    have hne : r ≠ 20000 := by rintro rfl; exact hr h20
    unfold outB
    rw [if_neg hne, if_pos hx]
  have hrowb : ∀ nr row cs fp, okPtr row = true → RepRow E3 w2 β2 row cs fp → RepRow E3 w2 (outB β2 nr) row cs fp := by
    intro nr row cs fp hr h
    exact h.beta _ _ _ (fun r hrr => hbout nr r (h.ptr hrr) (List.all_eq_true.1 hr r hrr))
  have main : ∀ (nr : Option Nat) (e3 : List (List V)) (t : T) (cv : Value), (nr = none → e3 = []) →  (∀ r, nr = some r → ∃ row, e3 = [row] ∧ s'.boxRow r = some row ∧ okPtr row = true ∧ r < 10000 ∧ ∀ x ∈ fn.io, x.2.1 ≠ r) →
      RRes E3 w2 (outB β2 nr) t cv fs → ∃ E2 β2 F2 fts, BdOut E w β io args ext cvs F t (e1 ++ e2 ++ e3) cv E2 w2 β2 F2 fts := by
    intro nr e3 t cv hnr1 hnr2 hR
    have hrow1 : ∀ j row0, (ext.take (ext.length - fn.io.length))[j]? = some row0 → ∃ row, e1[j]? = some row ∧ s'.boxRow (extAt j row0) = some row := by
      intro j row0 h
      have hj := (List.getElem?_eq_some_iff.1 h).1
      refine ⟨e1[j]'(by omega), by simp, ?_⟩
      have := x2 j (e1[j]'(by omega)) row0 h (by simp)
      rwa [Nat.zero_add] at this
    let K1 : List Nat := (ext.take (ext.length - fn.io.length)).zipIdx.map fun x => extAt x.2 x.1
    have hK1 : ∀ j row0, (ext.take (ext.length - fn.io.length))[j]? = some row0 → K1[j]? = some (extAt j row0) := by
      intro j row0 h
      simp only [K1, List.getElem?_map, List.getElem?_zipIdx, h, Option.map_some, Nat.zero_add]
    have hK1l : K1.length = ext.length - io.length := by simp only [K1, List.length_map, List.length_zipIdx]; exact htl
    let K2 : List Nat := fn.io.map (·.2.1)
    let K3 : List Nat := nr.toList
    have hK1at : ∀ j r, K1[j]? = some r → ∃ row0, (ext.take (ext.length - fn.io.length))[j]? = some row0 ∧ r = extAt j row0 := by
      intro j r h
      have hj := (List.getElem?_eq_some_iff.1 h).1
      rw [hK1l] at hj
      have hx : (ext.take (ext.length - fn.io.length))[j]? = some ((ext.take (ext.length - fn.io.length))[j]'(by omega)) := List.getElem?_eq_getElem _
      have := hK1 j _ hx
      rw [h] at this
      exact ⟨_, hx, Option.some.inj this⟩
    have hKnd : (K1 ++ (K2 ++ K3)).Nodup := by
      rw [List.nodup_append]
      refine ⟨?_, ?_, ?_⟩
      · rw [List.nodup_iff_pairwise_ne, List.pairwise_iff_getElem]
        intro i j hi hj hij e
        obtain ⟨r1, h1, e1⟩ := hK1at i _ (List.getElem?_eq_getElem hi)
        obtain ⟨r2, h2, e2⟩ := hK1at j _ (List.getElem?_eq_getElem hj)
        rw [e1, e2] at e
        have := extAt_inj (by omega) (by omega) e
        omega
      · rw [List.nodup_append]
        refine ⟨hrnd, by cases nr <;> simp [K3], ?_⟩
        intro a ha b hb e
        subst e
        cases nr with
        | none => simp [K3] at hb
        | some r =>
          simp only [K3, Option.toList_some, List.mem_singleton] at hb
          subst hb
          obtain ⟨_, _, _, _, _, h⟩ := hnr2 a rfl
          obtain ⟨x, hx, e⟩ := List.mem_map.1 ha
          exact h x hx e
      · intro a ha b hb e
        subst e
        obtain ⟨j, hj⟩ := List.getElem?_of_mem ha
        obtain ⟨row0, _, e⟩ := hK1at j a hj
        have hge : 10000 ≤ a := by rw [e]; exact extAt_ge _ _
        rcases List.mem_append.1 hb with hb | hb
        · obtain ⟨x, hx, e⟩ := List.mem_map.1 hb
          have := List.all_eq_true.1 hrs x hx
          simp only [Bool.or_eq_true, beq_iff_eq, Bool.and_eq_true, decide_eq_true_eq] at this
          obtain ⟨t0, ht0, _⟩ := hfl' x hx
          have := (List.getElem?_eq_some_iff.1 ht0).1
          omega
        · cases nr with
          | none => simp [K3] at hb
          | some r =>
            simp only [K3, Option.toList_some, List.mem_singleton] at hb
            subst hb
            obtain ⟨_, _, _, _, h, _⟩ := hnr2 a rfl
            omega
    have hK2l : K2.length = io.length := by simp only [K2, List.length_map]; exact hl
    have hbox : ∀ r row, s'.boxRow r = some row → okPtr row = true → (T.isMp row = true ∧ 600000 ≤ r ∧ ∃ ka va ks vs b es clk, row = [.mp ka va ks vs] ∧ β2 r = some b ∧ g3 r = [b] ∧ w2.heap[b]? = some (.map es clk) ∧ b < w2.heap.size ∧ Ents ka va ks vs es.toList) ∨
        (T.isMp row = false ∧ isBox r = true ∧ ∃ b cs f0, β2 r = some b ∧ g3 r = b :: f0 ∧ RepRow E3 w2 β2 row cs f0 ∧ RowAt w2 b 0 cs ∧ Clean w2 b cs.length ∧ b < w2.heap.size) := by
      intro r row h ho
      rcases boxRow_ok h with ⟨ka, va, ks, vs, v, hg, hr6, rfl⟩ | ⟨v, hg, hbx⟩
      · have hroot := H.inv.roots r _ _ hg
        have hnb : isBox r = false := isBox_hi (by omega)
        simp only [RootOk, hnb, Bool.false_eq_true, if_false, TOk] at hroot
        obtain ⟨b, es, clk, h1, h2, h3, h4, h5⟩ := hroot
        exact .inl ⟨rfl, hr6, ka, va, ks, vs, b, es, clk, rfl, h1, h2, h3, h4, h5⟩
      · have hroot := H.inv.roots r _ _ hg
        simp only [RootOk, hbx, if_true] at hroot
        obtain ⟨b, cs, f0, row', h1, h2, h3, h4, h5, h6, h7⟩ := hroot
        simp only [T.agg.injEq] at h2
        subst h2
        exact .inr ⟨h4.noMp, hbx, b, cs, f0, h1, h3, h4, h5, h6, h7⟩
    have hioE : ∀ k : Nat, ∃ fi : List Nat, ∀ (x : Nat × Nat × Bool) (row : List V), fn.io[k]? = some x → e2[k]? = some row → fi.Sublist (g3 x.2.1) ∧ ∃ (t0 : T) (cv0 : Value), args[x.1]? = some t0 ∧ cvs[x.1]? = some cv0 ∧ IRow E3 w2 (outB β2 nr) t0.isAgg cv0 row fi := by
      intro k
      cases hk : fn.io[k]? with
      | none => exact ⟨[], by simp⟩
      | some x =>
        obtain ⟨row, hrow⟩ : ∃ row, e2[k]? = some row := ⟨_, List.getElem?_eq_getElem (by rw [y1]; exact (List.getElem?_eq_some_iff.1 hk).1)⟩
        have hx := List.mem_of_getElem? hk
        obtain ⟨t0, ht0, hag⟩ := hfl' x hx
        have hxl := (List.getElem?_eq_some_iff.1 ht0).1
        obtain ⟨cv0, hcv0⟩ : ∃ cv0, cvs[x.1]? = some cv0 := ⟨cvs[x.1]'(by omega), by simp⟩
        have hkio : io[k]? = some x.1 := by rw [hio, List.getElem?_map, hk]; rfl
        have hkl := (List.getElem?_eq_some_iff.1 hkio).1
        obtain ⟨row0, hrow0⟩ : ∃ row0, ext[ext.length - io.length + k]? = some row0 := ⟨ext[ext.length - io.length + k]'(by omega), by simp⟩
        obtain ⟨G, hG⟩ : ∃ G, F[ext.length - io.length + k]? = some G := ⟨F[ext.length - io.length + k]'(by omega), by simp⟩
        obtain ⟨t1, cv1, q1, q2, cs, q3, q4, q5⟩ := B.ios k x.1 row0 G hkio hrow0 hG
        rw [ht0] at q1
        obtain rfl := Option.some.inj q1
        rw [hcv0] at q2
        obtain rfl := Option.some.inj q2
        have hcvp : cvOf a.tmps x.1 = cv0 := by
          rw [hA'.pins x.1 x.2.1 (List.mem_map.2 ⟨x, hx, rfl⟩)]
          exact cvOf_start (by omega) hcv0
        obtain ⟨row0', hd0, hd1⟩ := hnr k x hk
        rw [hrow0] at hd1
        obtain rfl := Option.some.inj hd1
        obtain ⟨tr, vr, hgr, htr, hlen, hshp, hdd⟩ := y2 k x row0 row hk hd0 hrow
        obtain ⟨ds, fc, k1, k2, k3⟩ := H.inv.row hgr htr
        have hor : okPtr row = true := by
          refine List.all_eq_true.1 hptr row ?_
          exact List.mem_append.2 (.inr (List.mem_of_getElem? hrow))
        have hdl := k1.len
        have hcl := q4.len
        have hcells : cv0.cells.toList = cs := by
          unfold cellsAre at q3
          split at q3
          · rw [q3]; rfl
          · rename_i hagf
            subst q3
            have hagf : x.2.2 = false := by rw [← hag]; simpa using hagf
            obtain ⟨v, rfl⟩ : ∃ v, row0 = [v] := by
              cases row0 with
              | nil => simp at hcl
              | cons v r => cases r with
                | nil => exact ⟨v, rfl⟩
                | cons _ _ => simp at hcl
            have hv := hdd hagf v (by simp)
            simp only [RepRow] at q4
            obtain ⟨c0, cs', f0, f', e1, e2, e3, e4, e5⟩ := q4
            simp only [List.cons.injEq] at e1
            rw [e1.1]
            exact rep_cells hv e3
        rcases k3 with ⟨hbx, b, kb1, kb2, kb3, kb4, kb5, kb6⟩ | ⟨hbx, kg, hkk⟩
        · -- a box of its own
          have hne : x.2.1 ≠ x.1 := fun e => by
            rw [e, isBox_low (by omega)] at hbx
            exact absurd hbx (by simp)
          have hsg : ∃ y, s.get x.2.1 = some y := by
            have := H.box x.2.1 hbx (by rw [hgr]; rfl)
            exact Option.isSome_iff_exists.1 this
          obtain ⟨y, hy⟩ := hsg
          have hp := (hp2 x.1 x.2.1 (List.mem_map.2 ⟨x, hx, rfl⟩)).2 hne
          have hds : ds = cs := by
            apply List.ext_getElem?
            intro j
            cases hj : cs[j]? with
            | none =>
              rw [List.getElem?_eq_none_iff] at hj ⊢
              omega
            | some c0 =>
              have := hp.2 y hy j c0 (by rw [hcvp, hcells]; exact hj)
              have hjl := (List.getElem?_eq_some_iff.1 hj).1
              obtain ⟨d0, hd0⟩ : ∃ d0, ds[j]? = some d0 := ⟨ds[j]'(by omega), by simp⟩
              have h2 := kb4 j d0 hd0
              rw [Nat.zero_add] at h2
              have kb1' : β2 x.2.1 = some b := kb1
              simp only [topVal, hbx, if_true, kb1', h2] at this
              rw [hd0, this]
          subst hds
          refine ⟨fc, fun x' row' hx' hrow' => ?_⟩
          rw [hrow] at hrow'
          obtain rfl := Option.some.inj hx'
          obtain rfl := Option.some.inj hrow'
          exact ⟨by rw [kb3]; exact List.sublist_cons_self _ _, t0, cv0, ht0, hcv0, ds, q3, hrowb _ _ _ _ hor k1, fun h => by rw [hlen]; exact q5 h⟩
        · -- the parameter itself
          have he : x.2.1 = x.1 := by
            by_cases hne : x.2.1 = x.1
            · exact hne
            · have := ((hp2 x.1 x.2.1 (List.mem_map.2 ⟨x, hx, rfl⟩)).2 hne).1
              rw [this] at hbx
              exact absurd hbx (by simp)
          have hsh := hshp he
          rw [he] at hkk
          rw [hcvp] at hkk
          refine ⟨fc, fun x' row' hx' hrow' => ?_⟩
          rw [hrow] at hrow'
          obtain rfl := Option.some.inj hx'
          obtain rfl := Option.some.inj hrow'
          refine ⟨by rw [kg]; exact List.Sublist.refl _, t0, cv0, ht0, hcv0, ds, ?_, hrowb _ _ _ _ hor k1, fun h => by rw [hlen]; exact q5 h⟩
          rcases hkk with ⟨v, e1, e2, e3⟩ | ⟨e1, arr, e2, e3⟩
          · rw [e2] at hsh
            rw [hag, ← hsh]
            simp [cellsAre, T.isAgg, e3]
          · rw [e1] at hsh
            rw [hag, ← hsh]
            simp [cellsAre, T.isAgg, e2, e3]
    obtain ⟨fI, hfI⟩ := Classical.axiomOfChoice hioE
    let F1 : List (List Nat) := K1.map g3
    let F2 : List (List Nat) := (List.range io.length).map fI
    let F3 : List (List Nat) := K3.map g3
    have hF1l : F1.length = ext.length - io.length := by simp only [F1, List.length_map, hK1l]
    have hF2l : F2.length = io.length := by simp [F2]
    have hF3l : F3.length = e3.length := by
      cases nr with
      | none => rw [hnr1 rfl]; simp [F3, K3]
      | some r => obtain ⟨row, e, _⟩ := hnr2 r rfl; rw [e]; simp [F3, K3]
    have he3 : e3.length ≤ 1 ∧ (e3.length = 1 ↔ nr ≠ none) := by
      cases nr with
      | none => rw [hnr1 rfl]; simp
      | some r => obtain ⟨row, e, _⟩ := hnr2 r rfl; rw [e]; simp
    have hsubF : ∀ (k r : Nat) (G : List Nat), (K1 ++ (K2 ++ K3))[k]? = some r → (F1 ++ (F2 ++ F3))[k]? = some G → G.Sublist (g3 r) := by
      intro k r G h1 h2
      by_cases c1 : k < ext.length - io.length
      · rw [List.getElem?_append_left (by omega)] at h1 h2
        simp only [F1, List.getElem?_map, h1, Option.map_some, Option.some.injEq] at h2
        rw [← h2]; exact List.Sublist.refl _
      · rw [List.getElem?_append_right (by omega), hK1l] at h1
        rw [List.getElem?_append_right (by omega), hF1l] at h2
        by_cases c2 : k - (ext.length - io.length) < io.length
        · rw [List.getElem?_append_left (by omega)] at h1 h2
          simp only [K2, List.getElem?_map] at h1
          simp only [F2, List.getElem?_map, List.getElem?_range c2, Option.map_some, Option.some.injEq] at h2
          cases hx : fn.io[k - (ext.length - io.length)]? with
          | none => rw [hx] at h1; simp at h1
          | some x =>
            rw [hx] at h1
            simp only [Option.map_some, Option.some.injEq] at h1
            subst h1; subst h2
            have hxl := (List.getElem?_eq_some_iff.1 hx).1
            exact (hfI _ x (e2[k - (ext.length - io.length)]'(by omega)) hx (by simp)).1
        · rw [List.getElem?_append_right (by omega), hK2l] at h1
          rw [List.getElem?_append_right (by omega), hF2l] at h2
          simp only [F3, List.getElem?_map, h1, Option.map_some, Option.some.injEq] at h2
          rw [← h2]; exact List.Sublist.refl _
    have hKl : (F1 ++ (F2 ++ F3)).length = (K1 ++ (K2 ++ K3)).length := by
      simp only [List.length_append, hF1l, hF2l, hK1l, hK2l]
      simp [F3]
    obtain ⟨hFnd, hFin⟩ := flat_nodup H.inv _ _ hKnd hKl hsubF
    have hlen1 : (e1 ++ e2 ++ e3).length = ext.length + e3.length := by
      simp only [List.length_append, x1, y1, hl]
      rw [← hl, htl, hl]; omega
    have hat1 : ∀ j, j < ext.length - io.length → (e1 ++ e2 ++ e3)[j]? = e1[j]? ∧ (F1 ++ (F2 ++ F3))[j]? = F1[j]? := by
      intro j hj
      rw [List.append_assoc, List.getElem?_append_left (by rw [x1, htl]; exact hj), List.getElem?_append_left (by omega)]
      exact ⟨rfl, rfl⟩
    have hat2 : ∀ k, k < io.length → (e1 ++ e2 ++ e3)[ext.length - io.length + k]? = e2[k]? ∧ (F1 ++ (F2 ++ F3))[ext.length - io.length + k]? = F2[k]? := by
      intro k hk
      constructor
      · rw [List.append_assoc, List.getElem?_append_right (by rw [x1, hl, htl']; omega), x1, hl, htl', Nat.add_sub_cancel_left, List.getElem?_append_left (by omega)]
      · rw [List.getElem?_append_right (by omega), hF1l, Nat.add_sub_cancel_left, List.getElem?_append_left (by omega)]
    have hat3 : (e1 ++ e2 ++ e3)[ext.length]? = e3[0]? ∧ (F1 ++ (F2 ++ F3))[ext.length]? = F3[0]? := by
      have h1 : (e1 ++ e2).length = ext.length := by rw [List.length_append, x1, y1, htl, hl]; omega
      have h2 : (F1 ++ F2).length = ext.length := by rw [List.length_append, hF1l, hF2l]; omega
      constructor
      · rw [List.getElem?_append_right (by omega), h1, Nat.sub_self]
      · rw [← List.append_assoc, List.getElem?_append_right (by omega), h2, Nat.sub_self]
    have hcase : ∀ b ∈ ((F1 ++ (F2 ++ F3)) ++ fs).flatten, (∃ r, b ∈ g3 r) ∨ b ∈ fs.flatten := by
      intro b hb
      rw [List.flatten_append, List.mem_append] at hb
      rcases hb with hb | hb
      · obtain ⟨r, _, h⟩ := hFin b hb
        exact .inl ⟨r, h⟩
      · exact .inr hb
    have hextb : ∀ r, ExtR r → r ≠ 20000 → outB β2 nr r = β r := by
      intro r hr hne
      unfold outB
      rw [if_neg hne, if_pos (isExt_iff.2 hr)]
      exact FR.ext r hr
    have hrowe : ∀ j row0, j < ext.length - io.length → ext[j]? = some row0 → (ext.take (ext.length - fn.io.length))[j]? = some row0 := by
      intro j row0 hj h
      rw [hl, List.getElem?_take_of_lt hj]; exact h
    refine ⟨E3, outB β2 nr, F1 ++ (F2 ++ F3), fs, ?_⟩
    refine ⟨?_, ?_, FR.wf, FR.size, ?_, FR.shr, FR.tag, FR.hdr, ?_, ?_, ?_, ?_, ?_, ?_, ?_, ?_, hR⟩
    · rw [hlen1, List.length_append, List.length_append, hF1l, hF2l, hF3l]; omega
    · rw [hlen1]; omega
    · exact fun b hb hn => FR.same b hb (fun i hi => hn (hg0 i b hi))
    · intro b hb
      rcases hcase b hb with ⟨r, h⟩ | h
      · rcases FR.sub r b h with ⟨j, hj⟩ | h
        · exact .inl (hg0 j b hj)
        · exact .inr h
      · rcases FR.res b (by simpa using h) with ⟨j, hj⟩ | h
        · exact .inl (hg0 j b hj)
        · exact .inr h
    · rw [List.flatten_append, List.nodup_append]
      refine ⟨hFnd, H.nd, fun a ha b hb e => ?_⟩
      subst e
      obtain ⟨r, _, h⟩ := hFin a ha
      exact H.dis r a hb h
    · intro b hb
      rcases hcase b hb with ⟨r, h⟩ | h
      · exact H.inv.own r b h
      · exact H.own b h
    · intro j row hj hrow
      obtain ⟨h1, h2⟩ := extAt_ext (j := j) (row := row) (by omega)
      exact hextb _ h1 h2
    · intro j row row0 f hj h0 h1 h2
      obtain ⟨q1, q2⟩ := hat1 j hj
      rw [q1] at h1
      rw [q2] at h2
      have ht0 := hrowe j row0 hj h0
      obtain ⟨row', hr1, hr2⟩ := hrow1 j row0 ht0
      rw [h1] at hr1
      obtain rfl := Option.some.inj hr1
      have hk := hK1 j row0 ht0
      simp only [F1, List.getElem?_map, hk, Option.map_some, Option.some.injEq] at h2
      have hor : okPtr row = true := List.all_eq_true.1 hptr row (List.mem_append.2 (.inl (List.mem_of_getElem? h1)))
      obtain ⟨hx1, hx2⟩ := extAt_ext (j := j) (row := row0) (by omega)
      rcases hbox _ row hr2 hor with ⟨b1, b2, ka, va, ks, vs', b, es, clk, rfl, b3, b4, b5, b6, b7⟩ | ⟨b1, b2, b, cs, f0, b3, b4, b5, b6, b7, b8⟩
      · have hm0 : T.isMp row0 = true := by
          by_cases hm : T.isMp row0 = true
          · exact hm
          · rw [extAt_mp, if_neg hm] at b2
            omega
        have hat : extAt j row0 = 610000 + j := by rw [extAt_mp, if_pos hm0]
        refine ⟨?_, by rw [hm0]; rfl⟩
        rw [brow_mp]
        rw [hat] at b3 b4 h2 hx1 hx2
        exact ⟨b, es, clk, by rw [hbout nr _ (by rw [b3]; simp) (isExt_iff.2 hx1)]; exact b3, by rw [← h2, b4], b5, b6, b7⟩
      · have hm0 : T.isMp row0 = false := by
          cases hm : T.isMp row0 with
          | false => rfl
          | true =>
            rw [extAt_mp, if_pos hm, isBox_hi (by omega)] at b2
            simp at b2
        have hat : extAt j row0 = 10000 + j := by rw [extAt_mp, hm0]; rfl
        refine ⟨?_, by rw [hm0]; exact b1⟩
        rw [brow_agg b1]
        rw [hat] at b3 b4 h2 hx1 hx2
        exact ⟨b, cs, f0, by rw [hbout nr _ (by rw [b3]; simp) (isExt_iff.2 hx1)]; exact b3, by rw [← h2, b4], hrowb _ _ _ _ hor b5, b6, b7, b8⟩
    · intro k i row f hi h1 h2
      have hkl := (List.getElem?_eq_some_iff.1 hi).1
      obtain ⟨q1, q2⟩ := hat2 k hkl
      rw [q1] at h1
      rw [q2] at h2
      simp only [F2, List.getElem?_map, List.getElem?_range hkl, Option.map_some, Option.some.injEq] at h2
      obtain ⟨x, hx⟩ : ∃ x, fn.io[k]? = some x := ⟨fn.io[k]'(by omega), by simp⟩
      have hxi : x.1 = i := by
        rw [hio, List.getElem?_map, hx] at hi
        exact Option.some.inj hi
      obtain ⟨_, t0, cv0, r1, r2, r3⟩ := hfI k x row hx h1
      rw [hxi] at r1 r2
      rw [h2] at r3
      exact ⟨t0, cv0, r1, r2, r3⟩
    · intro row f h1 h2
      rw [hat3.1] at h1
      rw [hat3.2] at h2
      cases nr with
      | none => rw [hnr1 rfl] at h1; simp at h1
      | some r =>
        obtain ⟨row', e, r1, r2, r3, r4⟩ := hnr2 r rfl
        rw [e] at h1
        simp only [List.getElem?_cons_zero, Option.some.injEq] at h1
        subst h1
        simp only [F3, K3, Option.toList_some, List.map_cons, List.map_nil, List.getElem?_cons_zero, Option.some.injEq] at h2
        rcases hbox r row' r1 r2 with ⟨_, h, _⟩ | ⟨b1, b2, b, cs, f0, b3, b4, b5, b6, b7, b8⟩
        · omega
        · refine ⟨?_, b1⟩
          rw [brow_agg b1]
          refine ⟨b, cs, f0, ?_, by rw [← h2, b4], hrowb _ _ _ _ r2 b5, b6, b7, b8⟩
          show outB β2 (some r) 20000 = some b
          unfold outB
          rw [if_pos rfl]
          exact b3
    · intro r b hb
      by_cases hr : r = 20000
      · right
        refine ⟨hr, ?_⟩
        rw [hlen1]
        have : nr ≠ none := by
          rintro rfl
          unfold outB at hb
          rw [if_pos hr] at hb
          simp at hb
        have := he3.2.2 this
        omega
      · left
        have hx : isExt r = true := by
          unfold outB at hb
          rw [if_neg hr] at hb
          split at hb
          · assumption
          · simp at hb
        rw [hextb r (isExt_iff.1 hx) hr] at hb
        exact B.only r b hb
  have fin : ∃ cv E2 β2 F2 fts, (if h : vs.toArray.size = 1 then vs.toArray[0] else Value.tuple vs.toArray) = cv ∧ BdOut E w β io args ext cvs F t ext2 cv E2 w2 β2 F2 fts := by
    have one : ∀ (t1 : T), ts = [t1] → ∃ v f, vs = [v] ∧ fs = [f] ∧ t1.solid = true ∧ TOk E3 w2 β2 [] #[] t1 v f := by
      rintro t1 rfl
      cases vs with
      | nil => simp at hvl
      | cons v vs => cases vs with
        | cons _ _ => simp at hvl
        | nil => cases fs with
          | nil => simp at hfl2
          | cons f fs => cases fs with
            | cons _ _ => simp at hfl2
            | nil => exact ⟨v, f, rfl, rfl, by simpa using hsol, htok 0 t1 v f rfl rfl rfl⟩
    have tokb : ∀ nr (t1 : T) v f, t1.solid = true → (∀ r ∈ ptrsT t1, isExt r = true) → TOk E3 w2 β2 [] #[] t1 v f → TOk E3 w2 (outB β2 nr) [] #[] t1 v f := fun nr t1 v f h1 h2 h3 =>
      tok_beta h1 (fun r hr => hbout nr r (tok_ptr h1 h3 hr) (h2 r hr)) h3
    have sol : ∀ (t1 : T) v nr f, vs = [v] → fs = [f] → t1.solid = true → TOk E3 w2 (outB β2 nr) [] #[] t1 v f → RRes E3 w2 (outB β2 nr) t1 (if h : vs.toArray.size = 1 then vs.toArray[0] else Value.tuple vs.toArray) fs := by
      rintro t1 v nr f rfl rfl h1 h2
      simp only [List.size_toArray, List.length_singleton, dite_true]
      cases t1 <;> simp [T.solid] at h1 <;> exact ⟨f, rfl, rfl, h2⟩
    split at hev
    · rename_i r o
      obtain ⟨v, f, hvs, hfs, h1, h2⟩ := one _ rfl
      split at hev
      · rename_i hr
        split at hev
        case h_2 => simp at hev
        rename_i row hrow
        split at hev
        case isFalse => simp at hev
        rename_i hor
        simp only [Option.some.injEq, Prod.mk.injEq] at hev
        obtain ⟨rfl, rfl⟩ := hev
        split at hrow
        · simp at hrow
        rename_i hany
        simp only [List.any_eq_true, beq_iff_eq, not_exists, not_and, Bool.not_eq_true] at hany
        simp only [TOk, Rep, RepP] at h2
        obtain ⟨rfl, b, hb, rfl⟩ := h2
        obtain ⟨E', β', F', fts', hB⟩ := main (some r) [row] (.one (.ptr 20000 o)) _ (by simp) (fun r' e => by
          obtain rfl := Option.some.inj e
          exact ⟨row, rfl, hrow, hor, hr, fun x hx e => by simpa [e] using hany x hx⟩) (sol _ _ _ _ hvs hfs rfl (by
            simp only [TOk, Rep, RepP]
            refine ⟨trivial, b, ?_, rfl⟩
            unfold outB
            rw [if_pos rfl]
            exact hb))
        exact ⟨_, E', β', F', fts', rfl, hB⟩
      · split at hev
        case isFalse => simp at hev
        rename_i hx
        simp only [Option.some.injEq, Prod.mk.injEq] at hev
        obtain ⟨rfl, rfl⟩ := hev
        obtain ⟨E', β', F', fts', hB⟩ := main none [] (.one (.ptr r o)) _ (by simp) (by simp) (sol _ _ none _ hvs hfs rfl (tokb none _ v f h1 (by simpa [ptrsT, ptrsV] using hx) h2))
        rw [List.append_nil] at hB
        exact ⟨_, E', β', F', fts', rfl, hB⟩
    · rename_i t1 _
      split at hev
      case isFalse => simp at hev
      rename_i hx
      simp only [Option.some.injEq, Prod.mk.injEq] at hev
      obtain ⟨rfl, rfl⟩ := hev
      obtain ⟨v, f, hvs, hfs, h1, h2⟩ := one _ rfl
      obtain ⟨E', β', F', fts', hB⟩ := main none [] t1 _ (by simp) (by simp) (sol _ _ none _ hvs hfs h1 (tokb none _ v f h1 (List.all_eq_true.1 hx) h2))
      rw [List.append_nil] at hB
      exact ⟨_, E', β', F', fts', rfl, hB⟩
    · rename_i hn1 hn2
      split at hev
      · simp at hev
      rename_i hle
      split at hev
      case isFalse => simp at hev
      rename_i hx
      simp only [Option.some.injEq, Prod.mk.injEq] at hev
      obtain ⟨rfl, rfl⟩ := hev
      have hne : vs.toArray.size ≠ 1 := by
        intro h
        simp only [List.size_toArray, hvl] at h
        obtain ⟨t1, e⟩ := List.length_eq_one_iff.1 h
        exact hn2 t1 e
      obtain ⟨E', β', F', fts', hB⟩ := main none [] (.tup ts) (.tuple vs.toArray) (by simp) (by simp) ⟨vs.toArray, rfl, by simp [hvl], hfl2, by omega, hsol, fun i t1 v f q1 q2 q3 => by
        refine tokb none t1 v f (List.all_eq_true.1 hsol t1 (List.mem_of_getElem? q1)) (fun r hr => List.all_eq_true.1 hx r (List.mem_flatMap.2 ⟨t1, List.mem_of_getElem? q1, hr⟩)) (htok i t1 v f q1 (by simpa using q2) q3)⟩
      rw [List.append_nil] at hB
      exact ⟨_, E', β', F', fts', by rw [dif_neg hne], hB⟩
  obtain ⟨cv, E', β', F', fts', hcv', hB⟩ := fin
  refine hexok (bodyPost P FN _) _ _ ?_
  have : a.defers = [] ∧ ∃ v, (results FN a.tmps).run P w2 = .ok v w2 ∧ ∃ cv E2 β2 F2 fts, Ending.returned v = .returned cv ∧ BdOut E w β io args ext cvs F t ext2 cv E2 w2 β2 F2 fts :=
    ⟨hA'.defers, _, hrun2, _, E', β', F', fts', rfl, by rw [hcv']; exact hB⟩
  exact ⟨this, this⟩
end
end Pv

set_option linter.unusedVariables false
namespace Pv
open Go
def OkT (P : Program) (T : Nat → Option Fn) : Prop := ∀ f fn, T f = some fn → okFn P f fn = true
theorem evN_ok {P : Program} {T : Nat → Option Fn} (hm : P.follows .mixedOrders = true) (hT : OkT P T) : ∀ n, SoundC P (evN T n)
  | 0 => fun f io args ext t ext2 h => by simp [evN] at h
  | n + 1 => fun f io args ext t ext2 h => by
    simp only [evN] at h
    split at h
    case h_2 => simp at h
    rename_i fn hfn
    exact fn_ok hm (evN_ok hm hT n) (hT f fn hfn) h
end Pv

set_option maxRecDepth 100000
namespace Pv
open Go
theorem okP7 : okFn Go.Proofs.Try.prog 7 c7 = true := by kernel_rfl
theorem okP10 : okFn Go.Proofs.Try.prog 10 c10 = true := by kernel_rfl
theorem okP11 : okFn Go.Proofs.Try.prog 11 c11 = true := by kernel_rfl
theorem okP12 : okFn Go.Proofs.Try.prog 12 c12 = true := by kernel_rfl
theorem okP13 : okFn Go.Proofs.Try.prog 13 c13 = true := by kernel_rfl
theorem okP14 : okFn Go.Proofs.Try.prog 14 c14 = true := by kernel_rfl
theorem okP15 : okFn Go.Proofs.Try.prog 15 c15 = true := by kernel_rfl
theorem okP16 : okFn Go.Proofs.Try.prog 16 c16 = true := by kernel_rfl
theorem okP17 : okFn Go.Proofs.Try.prog 17 c17 = true := by kernel_rfl
theorem okP18 : okFn Go.Proofs.Try.prog 18 c18 = true := by kernel_rfl
theorem okP19 : okFn Go.Proofs.Try.prog 19 c19 = true := by kernel_rfl
theorem okP20 : okFn Go.Proofs.Try.prog 20 c20 = true := by kernel_rfl
theorem okP21 : okFn Go.Proofs.Try.prog 21 c21 = true := by kernel_rfl
theorem okP27 : okFn Go.Proofs.Try.prog 27 c27 = true := by kernel_rfl
theorem okP28 : okFn Go.Proofs.Try.prog 28 c28 = true := by kernel_rfl
theorem okP29 : okFn Go.Proofs.Try.prog 29 c29 = true := by kernel_rfl
theorem okP30 : okFn Go.Proofs.Try.prog 30 c30 = true := by kernel_rfl
theorem okP31 : okFn Go.Proofs.Try.prog 31 c31 = true := by kernel_rfl
theorem okP32 : okFn Go.Proofs.Try.prog 32 c32 = true := by kernel_rfl
theorem okP33 : okFn Go.Proofs.Try.prog 33 c33 = true := by kernel_rfl
theorem okP34 : okFn Go.Proofs.Try.prog 34 c34 = true := by kernel_rfl
theorem okP35 : okFn Go.Proofs.Try.prog 35 c35 = true := by kernel_rfl
theorem okP36 : okFn Go.Proofs.Try.prog 36 c36 = true := by kernel_rfl
theorem okP37 : okFn Go.Proofs.Try.prog 37 c37 = true := by kernel_rfl
theorem okP38 : okFn Go.Proofs.Try.prog 38 c38 = true := by kernel_rfl
theorem okP44 : okFn Go.Proofs.Try.prog 44 c44 = true := by kernel_rfl
theorem okP45 : okFn Go.Proofs.Try.prog 45 c45 = true := by kernel_rfl
def T23 : Nat → Option Pv.Fn
  | 7 => some c7
  | 10 => some c10
  | 11 => some c11
  | 12 => some c12
  | 13 => some c13
  | 14 => some c14
  | 15 => some c15
  | 16 => some c16
  | 17 => some c17
  | 18 => some c18
  | 19 => some c19
  | 20 => some c20
  | 21 => some c21
  | 27 => some c27
  | 28 => some c28
  | 29 => some c29
  | 30 => some c30
  | 31 => some c31
  | 32 => some c32
  | 33 => some c33
  | 34 => some c34
  | 35 => some c35
  | 36 => some c36
  | 37 => some c37
  | 38 => some c38
  | 44 => some c44
  | 45 => some c45
  | _ => none
theorem T23_ok : OkT Go.Proofs.Try.prog T23 := by
  intro f fn h
  unfold T23 at h
  split at h
  · obtain rfl := Option.some.inj h; exact okP7
  · obtain rfl := Option.some.inj h; exact okP10
  · obtain rfl := Option.some.inj h; exact okP11
  · obtain rfl := Option.some.inj h; exact okP12
  · obtain rfl := Option.some.inj h; exact okP13
  · obtain rfl := Option.some.inj h; exact okP14
  · obtain rfl := Option.some.inj h; exact okP15
  · obtain rfl := Option.some.inj h; exact okP16
  · obtain rfl := Option.some.inj h; exact okP17
  · obtain rfl := Option.some.inj h; exact okP18
  · obtain rfl := Option.some.inj h; exact okP19
  · obtain rfl := Option.some.inj h; exact okP20
  · obtain rfl := Option.some.inj h; exact okP21
  · obtain rfl := Option.some.inj h; exact okP27
  · obtain rfl := Option.some.inj h; exact okP28
  · obtain rfl := Option.some.inj h; exact okP29
  · obtain rfl := Option.some.inj h; exact okP30
  · obtain rfl := Option.some.inj h; exact okP31
  · obtain rfl := Option.some.inj h; exact okP32
  · obtain rfl := Option.some.inj h; exact okP33
  · obtain rfl := Option.some.inj h; exact okP34
  · obtain rfl := Option.some.inj h; exact okP35
  · obtain rfl := Option.some.inj h; exact okP36
  · obtain rfl := Option.some.inj h; exact okP37
  · obtain rfl := Option.some.inj h; exact okP38
  · obtain rfl := Option.some.inj h; exact okP44
  · obtain rfl := Option.some.inj h; exact okP45
  · simp at h
theorem sound23 (n : Nat) : SoundC Go.Proofs.Try.prog (evN T23 n) := evN_ok (Checked.mixed Go.Proofs.Try.checked) T23_ok n
end Pv

namespace Pv
open Go
theorem awake23 : EvF T23 10 [] [] [] (.one (.sc (.bool true)), []) := EvF.at (n := 60) (by kernel_rfl)
end Pv

set_option linter.unusedVariables false
namespace Pv
open Go Go.RowKit Go.ChangeShapes Go.WideShapes
def E0 : Env := ⟨fun _ => False, fun _ => none, fun _ => default⟩
def β0 : Nat → Option Nat := fun _ => none
def ArgsOk (w : World) : List T → List Value → Prop
  | [], cvs => cvs = []
  | t :: ts, cvs => ∃ cv r, cvs = cv :: r ∧ t.solid = true ∧ TOk E0 w β0 [] #[] t cv [] ∧ ArgsOk w ts r
theorem ArgsOk.at {w : World} : ∀ {ts : List T} {cvs : List Value}, ArgsOk w ts cvs → cvs.length = ts.length ∧ ∀ (i : Nat) (t : T), ts[i]? = some t → ∃ cv, cvs[i]? = some cv ∧ t.solid = true ∧ TOk E0 w β0 [] #[] t cv []
  | [], cvs, h => by simp [ArgsOk] at h; subst h; simp
  | t :: ts, cvs, h => by
    obtain ⟨cv, r, rfl, h1, h2, h3⟩ := h
    obtain ⟨h4, h5⟩ := ArgsOk.at h3
    refine ⟨by simp [h4], fun i t' hi => ?_⟩
    cases i with
    | zero => simp at hi; subst hi; exact ⟨cv, rfl, h1, h2⟩
    | succ i => simp at hi; exact h5 i t' hi
theorem entry {P : Program} {C : Orc} (hC : SoundC P C) {f : Nat} {args : List T} {w : World} {cvs : List Value} (h : C f [] args [] = some (.one (.sc (.bool true)), []))
    (ha : ArgsOk w args cvs) : Calls P f cvs.toArray w fun e w' => e = .returned (.bool true) ∧ Wf w w' ∧ w.heap.size ≤ w'.heap.size ∧ ∀ b, b < w.heap.size → w'.heap[b]? = w.heap[b]? := by
  obtain ⟨_, hc⟩ := hC f [] args [] _ _ h
  obtain ⟨hn, hat⟩ := ha.at
  refine (hc E0 w β0 cvs.toArray [] ⟨by simp [hn], rfl, by simp, by simp, by simp, fun i t hi _ => ?_, fun j row f hj => by simp at hj, fun k i row f hk => by simp at hk, by simp, fun b hb => by simp at hb, fun b _ => rfl, fun r b hb => by simp [β0] at hb⟩).mono ?_
  · obtain ⟨cv, h1, h2, h3⟩ := hat i t hi
    exact ⟨cv, by simpa using h1, h2, h3⟩
  · rintro e w' ⟨cv, E2, β2, F2, fts, rfl, ho⟩
    refine ⟨?_, ho.wf, ho.size, fun b hb => (ho.same b hb (by simp)).1⟩
    have := ho.res
    simp only [RRes] at this
    obtain ⟨f, _, _, h5⟩ := this
    simp only [TOk, Rep] at h5
    rw [h5.1]
def encK (k : IntKind) (n : Int) : List V := [.sc (.int k n)]
theorem rep_ints {w : World} {k : IntKind} {a : Option Addr} {len cap : Nat} {zs : List Int}
    (h : (a = none ∧ len = 0 ∧ cap = 0 ∧ zs = []) ∨ ∃ x, a = some x ∧ x.spot = none ∧ x.block < w.heap.size ∧ len ≤ cap ∧ zs.length = cap ∧ ∀ i, i < zs.length → w.cell? (x.add i) = some (.int k (zs.getD i 0))) :
    Rep E0 w β0 (.sl .ro 1 ((zs.take len).map (encK k))) (.slice a len cap) [] := by
  have rows : ∀ (l : List Int), RepRows E0 w β0 1 (l.map (encK k)) (l.map fun n => Value.int k n) [] := by
    intro l
    induction l with
    | nil => simp [RepRows]
    | cons x l ih =>
      simp only [List.map_cons, RepRows]
      exact ⟨[.int k x], _, [], [], rfl, rfl, rfl, rfl, ⟨.int k x, [], [], [], rfl, rfl, ⟨rfl, rfl, rfl⟩, rfl, rfl⟩, ih⟩
  simp only [Rep]
  rcases h with ⟨rfl, rfl, rfl, rfl⟩ | ⟨x, rfl, h1, h2, h3, h4, h5⟩
  · exact ⟨none, 0, 0, [], [], rfl, by simp, by simp, by simp [RepRows], by simp [SlOk], by simp⟩
  · refine ⟨some x, len, cap, (zs.take len).map fun n => Value.int k n, [], rfl, by simp; omega, h3, rows _, ?_, by simp⟩
    refine ⟨h1, ?_, h2, .inr ⟨by simp, rfl, rfl, by simp [LabOk, E0]⟩⟩
    intro j v hj
    simp only [List.getElem?_map, Option.map_eq_some_iff] at hj
    obtain ⟨n, hn, rfl⟩ := hj
    rw [List.getElem?_take] at hn
    split at hn
    · have hlt : j < zs.length := by
        by_cases hh : j < zs.length
        · exact hh
        · rw [List.getElem?_eq_none (by omega)] at hn; simp at hn
      have := h5 j hlt
      have e : x.add j = ⟨x.block, x.off + j, none⟩ := by
        obtain ⟨b, o, sp⟩ := x
        simp only at h1; subst h1
        unfold Addr.add
        split
        · rename_i e0; subst e0; rfl
        · rfl
      rw [e] at this
      rw [this]
      simp [List.getD, hn]
    · simp at hn
structure Kept (w w' : World) : Prop where
  wf : Wf w w'
  size : w.heap.size ≤ w'.heap.size
  block : ∀ b, b < w.heap.size → w'.heap[b]? = w.heap[b]?
theorem Kept.frame {W w' : World} (h : Kept W w') (may : MemPlace → Prop) : W.keptBut w' may := by
  refine ⟨h.wf.os, h.wf.output, fun i hi => ?_⟩
  rw [h.block i hi]
  split <;> simp_all
theorem Kept.same {W w' : World} (h : Kept W w') {p : MemPlace} (hp : p.block < W.heap.size) : W.sameAt w' p := by
  have hb : Below W.heap.size W { w' with tape := W.tape } := ⟨h.wf.os, rfl, h.wf.output, h.size, h.block⟩
  have := hb.same hp
  cases p <;> exact this
theorem Kept.trod {H : Type} {enc : TypeId × Value → H} {P : Program} {t : TypeId} (hl : laidOutB P = true) (hr : P.readableRec t = true) (hrow : t < P.types.size) {W W' : World} {v : Value} {d : DataW H} {ps : List MemPlace}
    (h : DataW.Trod enc P W 0 (fun _ => true) true t v d ps) (hb : Kept W W') (hlt : ∀ x ∈ ps, x.block < W.heap.size) :
    DataW.Trod enc P W' 0 (fun b => decide (b < W.heap.size)) true t v d ps :=
  WideElems.Trod_stays hl hr hrow h (fun x hx => hb.same (hlt x hx)) (fun x hx => by simpa using hlt x hx)
theorem entry2 {P : Program} {C : Orc} (hC : SoundC P C) {f : Nat} {args : List T} {w : World} {cvs : List Value} (h : C f [] args [] = some (.one (.sc (.bool true)), []))
    (ha : ArgsOk w args cvs) : Calls P f cvs.toArray w fun e w' => e = .returned (.bool true) ∧ Kept w w' :=
  (entry hC h ha).mono fun _ _ ⟨h1, h2, h3, h4⟩ => ⟨h1, ⟨h2, h3, h4⟩⟩
theorem open_row {H : Type} {enc : TypeId × Value → H} {P : Program} {W : World} {base : Nat} {t e : TypeId} {k : IntKind} {a : Option Addr} {len cap : Nat} {d : DataW H} {ps : List MemPlace}
    (ht : P.underlying t = some (.slice e)) (he : P.underlying e = some (.int k)) (hc : P.cellsOf e = 1) (hok : Value.okWide P W .any base t (.slice a len cap)) (h : DataW.Trod enc P W 0 (fun _ => true) true t (.slice a len cap) d ps) :
    ∃ zs : List Int, len ≤ zs.length ∧ (zs.length : Int) ≤ maxLen ∧ (∀ n ∈ zs, (Lit.int k n).wf = true) ∧ Rep E0 W β0 (.sl .ro 1 ((zs.take len).map (encK k))) (.slice a len cap) [] := by
  obtain ⟨fuel, hf⟩ := h
  simp only [Value.okWide, ht, Cell.okWide, Cell.ok] at hok
  rcases open_ints ht he hc hf with ⟨hcs, _⟩ | ⟨x, l, c, zs, hcs, _, hl, hm, hz, _, hcell, hwz⟩
  · simp [Value.cells] at hcs
    obtain ⟨rfl, rfl, rfl⟩ := hcs
    exact ⟨[], by simp, by simp, by simp, rep_ints (zs := []) (.inl ⟨rfl, rfl, rfl, rfl⟩)⟩
  · simp [Value.cells] at hcs
    obtain ⟨rfl, rfl, rfl⟩ := hcs
    simp only [if_true] at hz
    simp only [World.has] at hok
    obtain ⟨_, _, _, hs, row, cells, hsh, _⟩ := hok
    have hb : x.block < W.heap.size := by
      unfold World.shape? at hsh
      by_cases hh : x.block < W.heap.size
      · exact hh
      · rw [Array.getElem?_eq_none (by omega)] at hsh; simp at hsh
    exact ⟨zs, by omega, by omega, hwz, rep_ints (.inr ⟨x, rfl, hs, hb, hl, hz, hcell⟩)⟩
theorem row_len {H : Type} {enc : TypeId × Value → H} {P : Program} {W : World} {t e : TypeId} {k : IntKind} {a : Option Addr} {len cap : Nat} {d : DataW H} {ps : List MemPlace} {ts : List TypeId} {ds : List (DataW H)} {j : Nat}
    (hsz : (DataW.weightsEach P ts ds).all (· ≤ reachBytes) = true) (hj : ts[j]? = some t) (hd : ds[j]? = some d) (ht : P.underlying t = some (.slice e)) (he : P.underlying e = some (.int k)) (hc : P.cellsOf e = 1)
    (hB : 1 ≤ P.bytesOf e) (h : DataW.Trod enc P W 0 (fun _ => true) true t (.slice a len cap) d ps) : len ≤ 140737488351232 := by
  obtain ⟨fuel, hf⟩ := h
  rcases open_ints ht he hc hf with ⟨hcs, _⟩ | ⟨x, l, c, zs, hcs, _, hl, _, hz, hx, _, _⟩
  · simp [Value.cells] at hcs
    obtain ⟨rfl, rfl, rfl⟩ := hcs
    simp
  · simp [Value.cells] at hcs
    obtain ⟨rfl, rfl, rfl⟩ := hcs
    have hx := (Prod.mk.inj hx).1
    subst hx
    have z := sized_slice hsz hj hd ht
    simp only [if_true] at hz
    have e1 : (lits (H := H) k (zs.take len)).length + (lits (H := H) k (zs.drop len)).length = zs.length := by
      simp [lits]
      omega
    rw [e1] at z
    have h2 : zs.length * 1 ≤ zs.length * P.bytesOf e := Nat.mul_le_mul_left _ hB
    have h3 : reachBytes ≤ 140737488351232 := by decide
    have h4 : len ≤ zs.length := by omega
    exact Nat.le_trans (by omega) (Nat.le_trans h2 (Nat.le_trans z h3))
end Pv

set_option maxRecDepth 100000
set_option linter.unusedVariables false
set_option linter.unusedSimpArgs false
namespace Pv
open Go
def roL : Nat → Lab := fun _ => .ro
def lab1 : Nat → Lab := fun i => if i = 7 then .part 2 else if i = 8 then .part 6 else .lent i
def lab2 : Nat → Lab := fun i => if i = 7 then .part 9 else if i = 8 then .part 13 else .lent (7 + i)
theorem lab1_ok : ∀ i, lab1 i ≠ .own := by intro i; unfold lab1; split <;> (try split) <;> simp
theorem lab2_ok : ∀ i, lab2 i ≠ .own := by intro i; unfold lab2; split <;> (try split) <;> simp
theorem roL_ok : ∀ i, roL i ≠ .own := by intro i; simp [roL]
theorem tab15 : Tab15 T23 := ⟨rfl, rfl, rfl, rfl, rfl⟩
theorem tab16 : Tab16 T23 := ⟨rfl, rfl, rfl, rfl⟩
theorem tabC : TabC T23 := ⟨rfl, rfl, rfl, rfl, rfl⟩
theorem rng2 : List.range 2 = [0, 1] := rfl
theorem tupAtE {d i : Nat} : tupAt d i = 30000 + 100 * d + i := rfl
theorem wfU {n : Int} (h : (Lit.int .u8 n).wf = true) : 0 ≤ n ∧ n ≤ 255 := by
  simp [Lit.wf, IntKind.min, IntKind.max, IntKind.signed, IntKind.bits] at h
  omega
end Pv

set_option maxRecDepth 100000
set_option linter.unusedVariables false
set_option linter.unusedSimpArgs false
namespace Pv
open Go
set_option maxHeartbeats 32000000
theorem markerUnseen_ev (vs cs : List Int) (hv : vs.length < 4611686018427387904) (hcl : cs.length < 4611686018427387904) (hw : ∀ x ∈ cs, 0 ≤ x ∧ x ≤ 255) :
    EvF T23 7 [] [.one (.sl .ro 1 (vs.map encI)), .one (.sl .ro 1 (cs.map encU))] [] (.one (.sc (.bool true)), []) := by
  obtain ⟨_, n1, v, ms, rfl, hv2, hv4, hms⟩ := begin_ok tabC (T := T23) rfl vs cs hv hcl hw
  refine EvF.run (fn := c7) rfl ?_
  simp -implicitDefEqProofs -dsimp only [go_sem, reduceIte, reduceCtorEq, Nat.reduceAdd, Nat.reduceMul, Nat.reduceSub, Nat.reduceDiv, Nat.reduceLT, Nat.reduceLeDiff, Nat.reduceEqDiff, Nat.reduceBEq, Nat.reduceBNe, Int.reduceToNat, Int.reduceEq, Int.reduceLT, Int.reduceLE, Int.reduceNeg, c7]
  refine CallF.intro awake23 ?_
  simp -implicitDefEqProofs -dsimp only [go_sem, reduceIte, reduceCtorEq, Nat.reduceAdd, Nat.reduceMul, Nat.reduceSub, Nat.reduceDiv, Nat.reduceLT, Nat.reduceLeDiff, Nat.reduceEqDiff, Nat.reduceBEq, Nat.reduceBNe, Int.reduceToNat, Int.reduceEq, Int.reduceLT, Int.reduceLE, Int.reduceNeg, c7]
  refine CallF.intro n1 ?_
  simp -implicitDefEqProofs -dsimp only [go_sem, reduceIte, reduceCtorEq, Nat.reduceAdd, Nat.reduceMul, Nat.reduceSub, Nat.reduceDiv, Nat.reduceLT, Nat.reduceLeDiff, Nat.reduceEqDiff, Nat.reduceBEq, Nat.reduceBNe, Int.reduceToNat, Int.reduceEq, Int.reduceLT, Int.reduceLE, Int.reduceNeg, c7, rng2, tupAtE]
  have c1 := new1_ok (T := T23) rfl v (.lent 0) (by simp) (by omega)
  have hn : newF v = (newSnap v, 0) := by simp only [newF]; rw [if_pos ⟨by omega, by omega⟩]
  rw [hn] at c1
  refine CallF.intro c1 ?_
  simp -implicitDefEqProofs -dsimp only [go_sem, reduceIte, reduceCtorEq, Nat.reduceAdd, Nat.reduceMul, Nat.reduceSub, Nat.reduceDiv, Nat.reduceLT, Nat.reduceLeDiff, Nat.reduceEqDiff, Nat.reduceBEq, Nat.reduceBNe, Int.reduceToNat, Int.reduceEq, Int.reduceLT, Int.reduceLE, Int.reduceNeg, c7, encR, snapRow, own, rng2, tupAtE]
  refine CallF.intro c1 ?_
  simp -implicitDefEqProofs -dsimp only [go_sem, reduceIte, reduceCtorEq, Nat.reduceAdd, Nat.reduceMul, Nat.reduceSub, Nat.reduceDiv, Nat.reduceLT, Nat.reduceLeDiff, Nat.reduceEqDiff, Nat.reduceBEq, Nat.reduceBNe, Int.reduceToNat, Int.reduceEq, Int.reduceLT, Int.reduceLE, Int.reduceNeg, c7, encR, snapRow, own, rng2, tupAtE]
  refine LoopW.intro (fun n t => ∃ (i : Nat) (s u : Snap) (L K : Nat → Lab), n + i = ms.length ∧ Live i s ∧ Live i u ∧ Twin s u ∧ s.values.length = v.length ∧ (L = own ∨ L = roL) ∧ (K = own ∨ K = roL) ∧ t = [(6, .one (.sl .own 4 (ms.map encM)), 0), (7, .one (.sc (.int .i64 v.length)), 0), (8, .one (.ptr 5008 0), 0), (10, .one (.ptr 5010 0), 0), (12, .one (.sc (.int .i64 i)), 0), (5008, .agg (snapRow L s), 0), (5010, .agg (snapRow K u), 0)]) ?_ ms.length ?_
  case refine_2 => simp -implicitDefEqProofs -dsimp only [go_sem, reduceIte, reduceCtorEq, Nat.reduceAdd, Nat.reduceMul, Nat.reduceSub, Nat.reduceDiv, Nat.reduceLT, Nat.reduceLeDiff, Nat.reduceEqDiff, Nat.reduceBEq, Nat.reduceBNe, Int.reduceToNat, Int.reduceEq, Int.reduceLT, Int.reduceLE, Int.reduceNeg, c7]; exact ⟨0, newSnap v, newSnap v, own, own, rfl, inv_new (by omega) (by omega), inv_new (by omega) (by omega), twin_new v, rfl, .inl rfl, .inl rfl, rfl⟩
  rintro n t ⟨i, s, u, L, K, hi, hs, hu, htw, hvs, hL, hK, rfl⟩
  have hk : i ≤ 1000000 := by omega
  have hwi := wS (show i < 4611686018427387904 by omega)
  by_cases h : i < ms.length
  case neg =>
    have hlv : s.values.length < 4611686018427387904 := by have := hs.wh.n5; omega
    have hlc : s.counts.length < 4611686018427387904 := by have := hs.wh.co; have := hs.wh.n5; omega
    rcases hL with rfl | rfl
    · rcases hK with rfl | rfl
      · have q1 := sameInts_ok (T := T23) rfl s.values u.values (.lent 0) (.lent 1) (by simp) (by simp) hlv
        have q2 := sameInts_ok (T := T23) rfl s.counts u.counts (.lent 0) (.lent 1) (by simp) (by simp) hlc
        simp -implicitDefEqProofs -dsimp only [go_sem, reduceIte, reduceCtorEq, Nat.reduceAdd, Nat.reduceMul, Nat.reduceSub, Nat.reduceDiv, Nat.reduceLT, Nat.reduceLeDiff, Nat.reduceEqDiff, Nat.reduceBEq, Nat.reduceBNe, Int.reduceToNat, Int.reduceEq, Int.reduceLT, Int.reduceLE, Int.reduceNeg, c7, snapRow, own, roL, h]
        refine CallF.intro q1 ?_
        simp -implicitDefEqProofs -dsimp only [go_sem, reduceIte, reduceCtorEq, Nat.reduceAdd, Nat.reduceMul, Nat.reduceSub, Nat.reduceDiv, Nat.reduceLT, Nat.reduceLeDiff, Nat.reduceEqDiff, Nat.reduceBEq, Nat.reduceBNe, Int.reduceToNat, Int.reduceEq, Int.reduceLT, Int.reduceLE, Int.reduceNeg, c7, snapRow, own, roL, h, htw.v]
        refine CallF.intro q2 ?_
        simp -implicitDefEqProofs -dsimp only [go_sem, reduceIte, reduceCtorEq, Nat.reduceAdd, Nat.reduceMul, Nat.reduceSub, Nat.reduceDiv, Nat.reduceLT, Nat.reduceLeDiff, Nat.reduceEqDiff, Nat.reduceBEq, Nat.reduceBNe, Int.reduceToNat, Int.reduceEq, Int.reduceLT, Int.reduceLE, Int.reduceNeg, c7, snapRow, own, roL, h, htw.c]
      · have q1 := sameInts_ok (T := T23) rfl s.values u.values (.lent 0) (.ro) (by simp) (by simp) hlv
        have q2 := sameInts_ok (T := T23) rfl s.counts u.counts (.lent 0) (.ro) (by simp) (by simp) hlc
        simp -implicitDefEqProofs -dsimp only [go_sem, reduceIte, reduceCtorEq, Nat.reduceAdd, Nat.reduceMul, Nat.reduceSub, Nat.reduceDiv, Nat.reduceLT, Nat.reduceLeDiff, Nat.reduceEqDiff, Nat.reduceBEq, Nat.reduceBNe, Int.reduceToNat, Int.reduceEq, Int.reduceLT, Int.reduceLE, Int.reduceNeg, c7, snapRow, own, roL, h]
        refine CallF.intro q1 ?_
        simp -implicitDefEqProofs -dsimp only [go_sem, reduceIte, reduceCtorEq, Nat.reduceAdd, Nat.reduceMul, Nat.reduceSub, Nat.reduceDiv, Nat.reduceLT, Nat.reduceLeDiff, Nat.reduceEqDiff, Nat.reduceBEq, Nat.reduceBNe, Int.reduceToNat, Int.reduceEq, Int.reduceLT, Int.reduceLE, Int.reduceNeg, c7, snapRow, own, roL, h, htw.v]
        refine CallF.intro q2 ?_
        simp -implicitDefEqProofs -dsimp only [go_sem, reduceIte, reduceCtorEq, Nat.reduceAdd, Nat.reduceMul, Nat.reduceSub, Nat.reduceDiv, Nat.reduceLT, Nat.reduceLeDiff, Nat.reduceEqDiff, Nat.reduceBEq, Nat.reduceBNe, Int.reduceToNat, Int.reduceEq, Int.reduceLT, Int.reduceLE, Int.reduceNeg, c7, snapRow, own, roL, h, htw.c]
    · rcases hK with rfl | rfl
      · have q1 := sameInts_ok (T := T23) rfl s.values u.values (.ro) (.lent 0) (by simp) (by simp) hlv
        have q2 := sameInts_ok (T := T23) rfl s.counts u.counts (.ro) (.lent 0) (by simp) (by simp) hlc
        simp -implicitDefEqProofs -dsimp only [go_sem, reduceIte, reduceCtorEq, Nat.reduceAdd, Nat.reduceMul, Nat.reduceSub, Nat.reduceDiv, Nat.reduceLT, Nat.reduceLeDiff, Nat.reduceEqDiff, Nat.reduceBEq, Nat.reduceBNe, Int.reduceToNat, Int.reduceEq, Int.reduceLT, Int.reduceLE, Int.reduceNeg, c7, snapRow, own, roL, h]
        refine CallF.intro q1 ?_
        simp -implicitDefEqProofs -dsimp only [go_sem, reduceIte, reduceCtorEq, Nat.reduceAdd, Nat.reduceMul, Nat.reduceSub, Nat.reduceDiv, Nat.reduceLT, Nat.reduceLeDiff, Nat.reduceEqDiff, Nat.reduceBEq, Nat.reduceBNe, Int.reduceToNat, Int.reduceEq, Int.reduceLT, Int.reduceLE, Int.reduceNeg, c7, snapRow, own, roL, h, htw.v]
        refine CallF.intro q2 ?_
        simp -implicitDefEqProofs -dsimp only [go_sem, reduceIte, reduceCtorEq, Nat.reduceAdd, Nat.reduceMul, Nat.reduceSub, Nat.reduceDiv, Nat.reduceLT, Nat.reduceLeDiff, Nat.reduceEqDiff, Nat.reduceBEq, Nat.reduceBNe, Int.reduceToNat, Int.reduceEq, Int.reduceLT, Int.reduceLE, Int.reduceNeg, c7, snapRow, own, roL, h, htw.c]
      · have q1 := sameInts_ok (T := T23) rfl s.values u.values (.ro) (.ro) (by simp) (by simp) hlv
        have q2 := sameInts_ok (T := T23) rfl s.counts u.counts (.ro) (.ro) (by simp) (by simp) hlc
        simp -implicitDefEqProofs -dsimp only [go_sem, reduceIte, reduceCtorEq, Nat.reduceAdd, Nat.reduceMul, Nat.reduceSub, Nat.reduceDiv, Nat.reduceLT, Nat.reduceLeDiff, Nat.reduceEqDiff, Nat.reduceBEq, Nat.reduceBNe, Int.reduceToNat, Int.reduceEq, Int.reduceLT, Int.reduceLE, Int.reduceNeg, c7, snapRow, own, roL, h]
        refine CallF.intro q1 ?_
        simp -implicitDefEqProofs -dsimp only [go_sem, reduceIte, reduceCtorEq, Nat.reduceAdd, Nat.reduceMul, Nat.reduceSub, Nat.reduceDiv, Nat.reduceLT, Nat.reduceLeDiff, Nat.reduceEqDiff, Nat.reduceBEq, Nat.reduceBNe, Int.reduceToNat, Int.reduceEq, Int.reduceLT, Int.reduceLE, Int.reduceNeg, c7, snapRow, own, roL, h, htw.v]
        refine CallF.intro q2 ?_
        simp -implicitDefEqProofs -dsimp only [go_sem, reduceIte, reduceCtorEq, Nat.reduceAdd, Nat.reduceMul, Nat.reduceSub, Nat.reduceDiv, Nat.reduceLT, Nat.reduceLeDiff, Nat.reduceEqDiff, Nat.reduceBEq, Nat.reduceBNe, Int.reduceToNat, Int.reduceEq, Int.reduceLT, Int.reduceLE, Int.reduceNeg, c7, snapRow, own, roL, h, htw.c]
  obtain ⟨m, em⟩ : ∃ m, ms[i]? = some m := ⟨ms[i], by simp [h]⟩
  have hls := live_adv hs hk m
  have hlu := live_adv hu hk m
  have tw := twin_step hs hu htw m
  have two := step_two (s := s) (m := m)
  obtain ⟨x, e, hx⟩ : ∃ x e, stepF s m = (x, e) := ⟨_, _, rfl⟩
  obtain ⟨y, f, hy⟩ : ∃ y f, stepF u m = (y, f) := ⟨_, _, rfl⟩
  have hax : advF s m = if e = 0 then x else s := by simp only [advF, hx]
  have hay : advF u m = if f = 0 then y else u := by simp only [advF, hy]
  rw [hax] at hls
  rw [hay] at hlu
  rw [hx, hy] at tw
  rw [hx] at two
  simp only at tw two
  have hlu0 := hu.mono (show i ≤ i + 1 by omega)
  have hls0 := hs.mono (show i ≤ i + 1 by omega)
  rcases hL with rfl | rfl
  · rcases hK with rfl | rfl
    · have st1 := step1_ok tab15 hs.wh hk lab1 lab1_ok m
      have st2 := step1_ok tab15 hu.wh hk lab1 lab1_ok m
      rw [hx] at st1
      rw [hy] at st2
      obtain ⟨kd, fr, to, vl⟩ := m
      simp -implicitDefEqProofs -dsimp only [go_sem, reduceIte, reduceCtorEq, Nat.reduceAdd, Nat.reduceMul, Nat.reduceSub, Nat.reduceDiv, Nat.reduceLT, Nat.reduceLeDiff, Nat.reduceEqDiff, Nat.reduceBEq, Nat.reduceBNe, Int.reduceToNat, Int.reduceEq, Int.reduceLT, Int.reduceLE, Int.reduceNeg, c7, snapRow, own, roL, h, em]
      refine CallF.intro st1 ?_
      simp -implicitDefEqProofs -dsimp only [go_sem, reduceIte, reduceCtorEq, Nat.reduceAdd, Nat.reduceMul, Nat.reduceSub, Nat.reduceDiv, Nat.reduceLT, Nat.reduceLeDiff, Nat.reduceEqDiff, Nat.reduceBEq, Nat.reduceBNe, Int.reduceToNat, Int.reduceEq, Int.reduceLT, Int.reduceLE, Int.reduceNeg, c7, snapRow, own, roL, encR, h, em, rng2, tupAtE]
      by_cases he : e = 0
      case neg =>
        have htw0 := htw
        simp -implicitDefEqProofs -dsimp only [go_sem, reduceIte, reduceCtorEq, Nat.reduceAdd, Nat.reduceMul, Nat.reduceSub, Nat.reduceDiv, Nat.reduceLT, Nat.reduceLeDiff, Nat.reduceEqDiff, Nat.reduceBEq, Nat.reduceBNe, Int.reduceToNat, Int.reduceEq, Int.reduceLT, Int.reduceLE, Int.reduceNeg, c7, he, hwi]
        exact ⟨n - 1, by omega, i + 1, s, u, own, own, by omega, hls0, hlu0, htw, hvs, .inl rfl, .inl rfl, rfl⟩
      subst he
      rw [if_pos rfl] at hls
      replace tw := tw rfl
      simp -implicitDefEqProofs -dsimp only [go_sem, reduceIte, reduceCtorEq, Nat.reduceAdd, Nat.reduceMul, Nat.reduceSub, Nat.reduceDiv, Nat.reduceLT, Nat.reduceLeDiff, Nat.reduceEqDiff, Nat.reduceBEq, Nat.reduceBNe, Int.reduceToNat, Int.reduceEq, Int.reduceLT, Int.reduceLE, Int.reduceNeg, c7, snapRow, own, roL, h, em]
      by_cases h1 : kd = 1
      · subst h1
        obtain ⟨hf0, htw2⟩ := tw.1 (.inl rfl)
        subst hf0
        rw [if_pos rfl] at hlu
        simp -implicitDefEqProofs -dsimp only [go_sem, reduceIte, reduceCtorEq, Nat.reduceAdd, Nat.reduceMul, Nat.reduceSub, Nat.reduceDiv, Nat.reduceLT, Nat.reduceLeDiff, Nat.reduceEqDiff, Nat.reduceBEq, Nat.reduceBNe, Int.reduceToNat, Int.reduceEq, Int.reduceLT, Int.reduceLE, Int.reduceNeg, c7, snapRow, own, roL, encR, h, em, rng2, tupAtE]
        refine CallF.intro st2 ?_
        simp -implicitDefEqProofs -dsimp only [go_sem, reduceIte, reduceCtorEq, Nat.reduceAdd, Nat.reduceMul, Nat.reduceSub, Nat.reduceDiv, Nat.reduceLT, Nat.reduceLeDiff, Nat.reduceEqDiff, Nat.reduceBEq, Nat.reduceBNe, Int.reduceToNat, Int.reduceEq, Int.reduceLT, Int.reduceLE, Int.reduceNeg, c7, snapRow, own, roL, encR, h, em, rng2, tupAtE, hwi]
        exact ⟨n - 1, by omega, i + 1, x, y, roL, roL, by omega, hls.1, hlu.1, htw2, by omega, .inr rfl, .inr rfl, rfl⟩
      by_cases h2 : kd = 2
      case neg =>
        have htw2 := tw.2 (by rintro (a | ⟨a, _⟩) <;> simp at a <;> omega)
        simp -implicitDefEqProofs -dsimp only [go_sem, reduceIte, reduceCtorEq, Nat.reduceAdd, Nat.reduceMul, Nat.reduceSub, Nat.reduceDiv, Nat.reduceLT, Nat.reduceLeDiff, Nat.reduceEqDiff, Nat.reduceBEq, Nat.reduceBNe, Int.reduceToNat, Int.reduceEq, Int.reduceLT, Int.reduceLE, Int.reduceNeg, c7, snapRow, own, roL, encR, h, em, rng2, tupAtE, hwi, h1, h2]
        exact ⟨n - 1, by omega, i + 1, x, u, roL, own, by omega, hls.1, hlu0, htw2, by omega, .inr rfl, .inl rfl, rfl⟩
      subst h2
      obtain ⟨p, q, hp, hq, hpn, hqn, hpq, b, z, r, hch⟩ := two rfl rfl
      simp only at hp hq
      subst hp hq
      have hn5 := hs.wh.n5
      have hnn : s.values.length * s.values.length ≤ 25 := Nat.mul_le_mul hn5 hn5
      have hl := chan_lt hpn hqn
      have w1 := wM (a := p) (b := s.values.length) (by omega)
      have w2 := wA (a := p * s.values.length) (b := q) (by omega)
      have e3 : s.chans[p * s.values.length + q]? = some ((b, z) :: r) := by
        cases hc : s.chans[p * s.values.length + q]? with
        | none => simp [chA, hc] at hch
        | some c => simp [chA, hc] at hch; rw [hch]
      have chl := hs.wh.ch
      rw [hvs] at w1 w2 e3 hl chl
      have hr0 : (((r.length + 1 : Nat) : Int) = 0) = False := eq_false (by omega)
      have hr1 : ((0 : Int) < ((r.length + 1 : Nat) : Int)) = True := eq_true (by omega)
      have hle : (v.length * v.length ≤ p * v.length + q) = False := eq_false (by omega)
      simp -implicitDefEqProofs -dsimp only [go_sem, reduceIte, reduceCtorEq, Nat.reduceAdd, Nat.reduceMul, Nat.reduceSub, Nat.reduceDiv, Nat.reduceLT, Nat.reduceLeDiff, Nat.reduceEqDiff, Nat.reduceBEq, Nat.reduceBNe, Int.reduceToNat, Int.reduceEq, Int.reduceLT, Int.reduceLE, Int.reduceNeg, c7, snapRow, own, roL, h, em, w1, w2, chl, hl, hle, hr0, hr1, e3]
      cases b with
      | true =>
        have htw2 := tw.2 (by rintro (a | ⟨_, v2, r2, a⟩); (· simp at a); (· simp [hch] at a))
        simp -implicitDefEqProofs -dsimp only [go_sem, reduceIte, reduceCtorEq, Nat.reduceAdd, Nat.reduceMul, Nat.reduceSub, Nat.reduceDiv, Nat.reduceLT, Nat.reduceLeDiff, Nat.reduceEqDiff, Nat.reduceBEq, Nat.reduceBNe, Int.reduceToNat, Int.reduceEq, Int.reduceLT, Int.reduceLE, Int.reduceNeg, c7, snapRow, own, roL, encR, h, em, rng2, tupAtE, hwi]
        exact ⟨n - 1, by omega, i + 1, x, u, roL, own, by omega, hls.1, hlu0, htw2, by omega, .inr rfl, .inl rfl, rfl⟩
      | false =>
        obtain ⟨hf0, htw2⟩ := tw.1 (.inr ⟨rfl, z, r, hch⟩)
        subst hf0
        rw [if_pos rfl] at hlu
        simp -implicitDefEqProofs -dsimp only [go_sem, reduceIte, reduceCtorEq, Nat.reduceAdd, Nat.reduceMul, Nat.reduceSub, Nat.reduceDiv, Nat.reduceLT, Nat.reduceLeDiff, Nat.reduceEqDiff, Nat.reduceBEq, Nat.reduceBNe, Int.reduceToNat, Int.reduceEq, Int.reduceLT, Int.reduceLE, Int.reduceNeg, c7, snapRow, own, roL, encR, h, em, rng2, tupAtE]
        refine CallF.intro st2 ?_
        simp -implicitDefEqProofs -dsimp only [go_sem, reduceIte, reduceCtorEq, Nat.reduceAdd, Nat.reduceMul, Nat.reduceSub, Nat.reduceDiv, Nat.reduceLT, Nat.reduceLeDiff, Nat.reduceEqDiff, Nat.reduceBEq, Nat.reduceBNe, Int.reduceToNat, Int.reduceEq, Int.reduceLT, Int.reduceLE, Int.reduceNeg, c7, snapRow, own, roL, encR, h, em, rng2, tupAtE, hwi]
        exact ⟨n - 1, by omega, i + 1, x, y, roL, roL, by omega, hls.1, hlu.1, htw2, by omega, .inr rfl, .inr rfl, rfl⟩
    · have st1 := step1_ok tab15 hs.wh hk lab1 lab1_ok m
      have st2 := step1_ok tab15 hu.wh hk roL roL_ok m
      rw [hx] at st1
      rw [hy] at st2
      obtain ⟨kd, fr, to, vl⟩ := m
      simp -implicitDefEqProofs -dsimp only [go_sem, reduceIte, reduceCtorEq, Nat.reduceAdd, Nat.reduceMul, Nat.reduceSub, Nat.reduceDiv, Nat.reduceLT, Nat.reduceLeDiff, Nat.reduceEqDiff, Nat.reduceBEq, Nat.reduceBNe, Int.reduceToNat, Int.reduceEq, Int.reduceLT, Int.reduceLE, Int.reduceNeg, c7, snapRow, own, roL, h, em]
      refine CallF.intro st1 ?_
      simp -implicitDefEqProofs -dsimp only [go_sem, reduceIte, reduceCtorEq, Nat.reduceAdd, Nat.reduceMul, Nat.reduceSub, Nat.reduceDiv, Nat.reduceLT, Nat.reduceLeDiff, Nat.reduceEqDiff, Nat.reduceBEq, Nat.reduceBNe, Int.reduceToNat, Int.reduceEq, Int.reduceLT, Int.reduceLE, Int.reduceNeg, c7, snapRow, own, roL, encR, h, em, rng2, tupAtE]
      by_cases he : e = 0
      case neg =>
        have htw0 := htw
        simp -implicitDefEqProofs -dsimp only [go_sem, reduceIte, reduceCtorEq, Nat.reduceAdd, Nat.reduceMul, Nat.reduceSub, Nat.reduceDiv, Nat.reduceLT, Nat.reduceLeDiff, Nat.reduceEqDiff, Nat.reduceBEq, Nat.reduceBNe, Int.reduceToNat, Int.reduceEq, Int.reduceLT, Int.reduceLE, Int.reduceNeg, c7, he, hwi]
        exact ⟨n - 1, by omega, i + 1, s, u, own, roL, by omega, hls0, hlu0, htw, hvs, .inl rfl, .inr rfl, rfl⟩
      subst he
      rw [if_pos rfl] at hls
      replace tw := tw rfl
      simp -implicitDefEqProofs -dsimp only [go_sem, reduceIte, reduceCtorEq, Nat.reduceAdd, Nat.reduceMul, Nat.reduceSub, Nat.reduceDiv, Nat.reduceLT, Nat.reduceLeDiff, Nat.reduceEqDiff, Nat.reduceBEq, Nat.reduceBNe, Int.reduceToNat, Int.reduceEq, Int.reduceLT, Int.reduceLE, Int.reduceNeg, c7, snapRow, own, roL, h, em]
      by_cases h1 : kd = 1
      · subst h1
        obtain ⟨hf0, htw2⟩ := tw.1 (.inl rfl)
        subst hf0
        rw [if_pos rfl] at hlu
        simp -implicitDefEqProofs -dsimp only [go_sem, reduceIte, reduceCtorEq, Nat.reduceAdd, Nat.reduceMul, Nat.reduceSub, Nat.reduceDiv, Nat.reduceLT, Nat.reduceLeDiff, Nat.reduceEqDiff, Nat.reduceBEq, Nat.reduceBNe, Int.reduceToNat, Int.reduceEq, Int.reduceLT, Int.reduceLE, Int.reduceNeg, c7, snapRow, own, roL, encR, h, em, rng2, tupAtE]
        refine CallF.intro st2 ?_
        simp -implicitDefEqProofs -dsimp only [go_sem, reduceIte, reduceCtorEq, Nat.reduceAdd, Nat.reduceMul, Nat.reduceSub, Nat.reduceDiv, Nat.reduceLT, Nat.reduceLeDiff, Nat.reduceEqDiff, Nat.reduceBEq, Nat.reduceBNe, Int.reduceToNat, Int.reduceEq, Int.reduceLT, Int.reduceLE, Int.reduceNeg, c7, snapRow, own, roL, encR, h, em, rng2, tupAtE, hwi]
        exact ⟨n - 1, by omega, i + 1, x, y, roL, roL, by omega, hls.1, hlu.1, htw2, by omega, .inr rfl, .inr rfl, rfl⟩
      by_cases h2 : kd = 2
      case neg =>
        have htw2 := tw.2 (by rintro (a | ⟨a, _⟩) <;> simp at a <;> omega)
        simp -implicitDefEqProofs -dsimp only [go_sem, reduceIte, reduceCtorEq, Nat.reduceAdd, Nat.reduceMul, Nat.reduceSub, Nat.reduceDiv, Nat.reduceLT, Nat.reduceLeDiff, Nat.reduceEqDiff, Nat.reduceBEq, Nat.reduceBNe, Int.reduceToNat, Int.reduceEq, Int.reduceLT, Int.reduceLE, Int.reduceNeg, c7, snapRow, own, roL, encR, h, em, rng2, tupAtE, hwi, h1, h2]
        exact ⟨n - 1, by omega, i + 1, x, u, roL, roL, by omega, hls.1, hlu0, htw2, by omega, .inr rfl, .inr rfl, rfl⟩
      subst h2
      obtain ⟨p, q, hp, hq, hpn, hqn, hpq, b, z, r, hch⟩ := two rfl rfl
      simp only at hp hq
      subst hp hq
      have hn5 := hs.wh.n5
      have hnn : s.values.length * s.values.length ≤ 25 := Nat.mul_le_mul hn5 hn5
      have hl := chan_lt hpn hqn
      have w1 := wM (a := p) (b := s.values.length) (by omega)
      have w2 := wA (a := p * s.values.length) (b := q) (by omega)
      have e3 : s.chans[p * s.values.length + q]? = some ((b, z) :: r) := by
        cases hc : s.chans[p * s.values.length + q]? with
        | none => simp [chA, hc] at hch
        | some c => simp [chA, hc] at hch; rw [hch]
      have chl := hs.wh.ch
      rw [hvs] at w1 w2 e3 hl chl
      have hr0 : (((r.length + 1 : Nat) : Int) = 0) = False := eq_false (by omega)
      have hr1 : ((0 : Int) < ((r.length + 1 : Nat) : Int)) = True := eq_true (by omega)
      have hle : (v.length * v.length ≤ p * v.length + q) = False := eq_false (by omega)
      simp -implicitDefEqProofs -dsimp only [go_sem, reduceIte, reduceCtorEq, Nat.reduceAdd, Nat.reduceMul, Nat.reduceSub, Nat.reduceDiv, Nat.reduceLT, Nat.reduceLeDiff, Nat.reduceEqDiff, Nat.reduceBEq, Nat.reduceBNe, Int.reduceToNat, Int.reduceEq, Int.reduceLT, Int.reduceLE, Int.reduceNeg, c7, snapRow, own, roL, h, em, w1, w2, chl, hl, hle, hr0, hr1, e3]
      cases b with
      | true =>
        have htw2 := tw.2 (by rintro (a | ⟨_, v2, r2, a⟩); (· simp at a); (· simp [hch] at a))
        simp -implicitDefEqProofs -dsimp only [go_sem, reduceIte, reduceCtorEq, Nat.reduceAdd, Nat.reduceMul, Nat.reduceSub, Nat.reduceDiv, Nat.reduceLT, Nat.reduceLeDiff, Nat.reduceEqDiff, Nat.reduceBEq, Nat.reduceBNe, Int.reduceToNat, Int.reduceEq, Int.reduceLT, Int.reduceLE, Int.reduceNeg, c7, snapRow, own, roL, encR, h, em, rng2, tupAtE, hwi]
        exact ⟨n - 1, by omega, i + 1, x, u, roL, roL, by omega, hls.1, hlu0, htw2, by omega, .inr rfl, .inr rfl, rfl⟩
      | false =>
        obtain ⟨hf0, htw2⟩ := tw.1 (.inr ⟨rfl, z, r, hch⟩)
        subst hf0
        rw [if_pos rfl] at hlu
        simp -implicitDefEqProofs -dsimp only [go_sem, reduceIte, reduceCtorEq, Nat.reduceAdd, Nat.reduceMul, Nat.reduceSub, Nat.reduceDiv, Nat.reduceLT, Nat.reduceLeDiff, Nat.reduceEqDiff, Nat.reduceBEq, Nat.reduceBNe, Int.reduceToNat, Int.reduceEq, Int.reduceLT, Int.reduceLE, Int.reduceNeg, c7, snapRow, own, roL, encR, h, em, rng2, tupAtE]
        refine CallF.intro st2 ?_
        simp -implicitDefEqProofs -dsimp only [go_sem, reduceIte, reduceCtorEq, Nat.reduceAdd, Nat.reduceMul, Nat.reduceSub, Nat.reduceDiv, Nat.reduceLT, Nat.reduceLeDiff, Nat.reduceEqDiff, Nat.reduceBEq, Nat.reduceBNe, Int.reduceToNat, Int.reduceEq, Int.reduceLT, Int.reduceLE, Int.reduceNeg, c7, snapRow, own, roL, encR, h, em, rng2, tupAtE, hwi]
        exact ⟨n - 1, by omega, i + 1, x, y, roL, roL, by omega, hls.1, hlu.1, htw2, by omega, .inr rfl, .inr rfl, rfl⟩
  · rcases hK with rfl | rfl
    · have st1 := step1_ok tab15 hs.wh hk roL roL_ok m
      have st2 := step1_ok tab15 hu.wh hk lab1 lab1_ok m
      rw [hx] at st1
      rw [hy] at st2
      obtain ⟨kd, fr, to, vl⟩ := m
      simp -implicitDefEqProofs -dsimp only [go_sem, reduceIte, reduceCtorEq, Nat.reduceAdd, Nat.reduceMul, Nat.reduceSub, Nat.reduceDiv, Nat.reduceLT, Nat.reduceLeDiff, Nat.reduceEqDiff, Nat.reduceBEq, Nat.reduceBNe, Int.reduceToNat, Int.reduceEq, Int.reduceLT, Int.reduceLE, Int.reduceNeg, c7, snapRow, own, roL, h, em]
      refine CallF.intro st1 ?_
      simp -implicitDefEqProofs -dsimp only [go_sem, reduceIte, reduceCtorEq, Nat.reduceAdd, Nat.reduceMul, Nat.reduceSub, Nat.reduceDiv, Nat.reduceLT, Nat.reduceLeDiff, Nat.reduceEqDiff, Nat.reduceBEq, Nat.reduceBNe, Int.reduceToNat, Int.reduceEq, Int.reduceLT, Int.reduceLE, Int.reduceNeg, c7, snapRow, own, roL, encR, h, em, rng2, tupAtE]
      by_cases he : e = 0
      case neg =>
        have htw0 := htw
        simp -implicitDefEqProofs -dsimp only [go_sem, reduceIte, reduceCtorEq, Nat.reduceAdd, Nat.reduceMul, Nat.reduceSub, Nat.reduceDiv, Nat.reduceLT, Nat.reduceLeDiff, Nat.reduceEqDiff, Nat.reduceBEq, Nat.reduceBNe, Int.reduceToNat, Int.reduceEq, Int.reduceLT, Int.reduceLE, Int.reduceNeg, c7, he, hwi]
        exact ⟨n - 1, by omega, i + 1, s, u, roL, own, by omega, hls0, hlu0, htw, hvs, .inr rfl, .inl rfl, rfl⟩
      subst he
      rw [if_pos rfl] at hls
      replace tw := tw rfl
      simp -implicitDefEqProofs -dsimp only [go_sem, reduceIte, reduceCtorEq, Nat.reduceAdd, Nat.reduceMul, Nat.reduceSub, Nat.reduceDiv, Nat.reduceLT, Nat.reduceLeDiff, Nat.reduceEqDiff, Nat.reduceBEq, Nat.reduceBNe, Int.reduceToNat, Int.reduceEq, Int.reduceLT, Int.reduceLE, Int.reduceNeg, c7, snapRow, own, roL, h, em]
      by_cases h1 : kd = 1
      · subst h1
        obtain ⟨hf0, htw2⟩ := tw.1 (.inl rfl)
        subst hf0
        rw [if_pos rfl] at hlu
        simp -implicitDefEqProofs -dsimp only [go_sem, reduceIte, reduceCtorEq, Nat.reduceAdd, Nat.reduceMul, Nat.reduceSub, Nat.reduceDiv, Nat.reduceLT, Nat.reduceLeDiff, Nat.reduceEqDiff, Nat.reduceBEq, Nat.reduceBNe, Int.reduceToNat, Int.reduceEq, Int.reduceLT, Int.reduceLE, Int.reduceNeg, c7, snapRow, own, roL, encR, h, em, rng2, tupAtE]
        refine CallF.intro st2 ?_
        simp -implicitDefEqProofs -dsimp only [go_sem, reduceIte, reduceCtorEq, Nat.reduceAdd, Nat.reduceMul, Nat.reduceSub, Nat.reduceDiv, Nat.reduceLT, Nat.reduceLeDiff, Nat.reduceEqDiff, Nat.reduceBEq, Nat.reduceBNe, Int.reduceToNat, Int.reduceEq, Int.reduceLT, Int.reduceLE, Int.reduceNeg, c7, snapRow, own, roL, encR, h, em, rng2, tupAtE, hwi]
        exact ⟨n - 1, by omega, i + 1, x, y, roL, roL, by omega, hls.1, hlu.1, htw2, by omega, .inr rfl, .inr rfl, rfl⟩
      by_cases h2 : kd = 2
      case neg =>
        have htw2 := tw.2 (by rintro (a | ⟨a, _⟩) <;> simp at a <;> omega)
        simp -implicitDefEqProofs -dsimp only [go_sem, reduceIte, reduceCtorEq, Nat.reduceAdd, Nat.reduceMul, Nat.reduceSub, Nat.reduceDiv, Nat.reduceLT, Nat.reduceLeDiff, Nat.reduceEqDiff, Nat.reduceBEq, Nat.reduceBNe, Int.reduceToNat, Int.reduceEq, Int.reduceLT, Int.reduceLE, Int.reduceNeg, c7, snapRow, own, roL, encR, h, em, rng2, tupAtE, hwi, h1, h2]
        exact ⟨n - 1, by omega, i + 1, x, u, roL, own, by omega, hls.1, hlu0, htw2, by omega, .inr rfl, .inl rfl, rfl⟩
      subst h2
      obtain ⟨p, q, hp, hq, hpn, hqn, hpq, b, z, r, hch⟩ := two rfl rfl
      simp only at hp hq
      subst hp hq
      have hn5 := hs.wh.n5
      have hnn : s.values.length * s.values.length ≤ 25 := Nat.mul_le_mul hn5 hn5
      have hl := chan_lt hpn hqn
      have w1 := wM (a := p) (b := s.values.length) (by omega)
      have w2 := wA (a := p * s.values.length) (b := q) (by omega)
      have e3 : s.chans[p * s.values.length + q]? = some ((b, z) :: r) := by
        cases hc : s.chans[p * s.values.length + q]? with
        | none => simp [chA, hc] at hch
        | some c => simp [chA, hc] at hch; rw [hch]
      have chl := hs.wh.ch
      rw [hvs] at w1 w2 e3 hl chl
      have hr0 : (((r.length + 1 : Nat) : Int) = 0) = False := eq_false (by omega)
      have hr1 : ((0 : Int) < ((r.length + 1 : Nat) : Int)) = True := eq_true (by omega)
      have hle : (v.length * v.length ≤ p * v.length + q) = False := eq_false (by omega)
      simp -implicitDefEqProofs -dsimp only [go_sem, reduceIte, reduceCtorEq, Nat.reduceAdd, Nat.reduceMul, Nat.reduceSub, Nat.reduceDiv, Nat.reduceLT, Nat.reduceLeDiff, Nat.reduceEqDiff, Nat.reduceBEq, Nat.reduceBNe, Int.reduceToNat, Int.reduceEq, Int.reduceLT, Int.reduceLE, Int.reduceNeg, c7, snapRow, own, roL, h, em, w1, w2, chl, hl, hle, hr0, hr1, e3]
      cases b with
      | true =>
        have htw2 := tw.2 (by rintro (a | ⟨_, v2, r2, a⟩); (· simp at a); (· simp [hch] at a))
        simp -implicitDefEqProofs -dsimp only [go_sem, reduceIte, reduceCtorEq, Nat.reduceAdd, Nat.reduceMul, Nat.reduceSub, Nat.reduceDiv, Nat.reduceLT, Nat.reduceLeDiff, Nat.reduceEqDiff, Nat.reduceBEq, Nat.reduceBNe, Int.reduceToNat, Int.reduceEq, Int.reduceLT, Int.reduceLE, Int.reduceNeg, c7, snapRow, own, roL, encR, h, em, rng2, tupAtE, hwi]
        exact ⟨n - 1, by omega, i + 1, x, u, roL, own, by omega, hls.1, hlu0, htw2, by omega, .inr rfl, .inl rfl, rfl⟩
      | false =>
        obtain ⟨hf0, htw2⟩ := tw.1 (.inr ⟨rfl, z, r, hch⟩)
        subst hf0
        rw [if_pos rfl] at hlu
        simp -implicitDefEqProofs -dsimp only [go_sem, reduceIte, reduceCtorEq, Nat.reduceAdd, Nat.reduceMul, Nat.reduceSub, Nat.reduceDiv, Nat.reduceLT, Nat.reduceLeDiff, Nat.reduceEqDiff, Nat.reduceBEq, Nat.reduceBNe, Int.reduceToNat, Int.reduceEq, Int.reduceLT, Int.reduceLE, Int.reduceNeg, c7, snapRow, own, roL, encR, h, em, rng2, tupAtE]
        refine CallF.intro st2 ?_
        simp -implicitDefEqProofs -dsimp only [go_sem, reduceIte, reduceCtorEq, Nat.reduceAdd, Nat.reduceMul, Nat.reduceSub, Nat.reduceDiv, Nat.reduceLT, Nat.reduceLeDiff, Nat.reduceEqDiff, Nat.reduceBEq, Nat.reduceBNe, Int.reduceToNat, Int.reduceEq, Int.reduceLT, Int.reduceLE, Int.reduceNeg, c7, snapRow, own, roL, encR, h, em, rng2, tupAtE, hwi]
        exact ⟨n - 1, by omega, i + 1, x, y, roL, roL, by omega, hls.1, hlu.1, htw2, by omega, .inr rfl, .inr rfl, rfl⟩
    · have st1 := step1_ok tab15 hs.wh hk roL roL_ok m
      have st2 := step1_ok tab15 hu.wh hk roL roL_ok m
      rw [hx] at st1
      rw [hy] at st2
      obtain ⟨kd, fr, to, vl⟩ := m
      simp -implicitDefEqProofs -dsimp only [go_sem, reduceIte, reduceCtorEq, Nat.reduceAdd, Nat.reduceMul, Nat.reduceSub, Nat.reduceDiv, Nat.reduceLT, Nat.reduceLeDiff, Nat.reduceEqDiff, Nat.reduceBEq, Nat.reduceBNe, Int.reduceToNat, Int.reduceEq, Int.reduceLT, Int.reduceLE, Int.reduceNeg, c7, snapRow, own, roL, h, em]
      refine CallF.intro st1 ?_
      simp -implicitDefEqProofs -dsimp only [go_sem, reduceIte, reduceCtorEq, Nat.reduceAdd, Nat.reduceMul, Nat.reduceSub, Nat.reduceDiv, Nat.reduceLT, Nat.reduceLeDiff, Nat.reduceEqDiff, Nat.reduceBEq, Nat.reduceBNe, Int.reduceToNat, Int.reduceEq, Int.reduceLT, Int.reduceLE, Int.reduceNeg, c7, snapRow, own, roL, encR, h, em, rng2, tupAtE]
      by_cases he : e = 0
      case neg =>
        have htw0 := htw
        simp -implicitDefEqProofs -dsimp only [go_sem, reduceIte, reduceCtorEq, Nat.reduceAdd, Nat.reduceMul, Nat.reduceSub, Nat.reduceDiv, Nat.reduceLT, Nat.reduceLeDiff, Nat.reduceEqDiff, Nat.reduceBEq, Nat.reduceBNe, Int.reduceToNat, Int.reduceEq, Int.reduceLT, Int.reduceLE, Int.reduceNeg, c7, he, hwi]
        exact ⟨n - 1, by omega, i + 1, s, u, roL, roL, by omega, hls0, hlu0, htw, hvs, .inr rfl, .inr rfl, rfl⟩
      subst he
      rw [if_pos rfl] at hls
      replace tw := tw rfl
      simp -implicitDefEqProofs -dsimp only [go_sem, reduceIte, reduceCtorEq, Nat.reduceAdd, Nat.reduceMul, Nat.reduceSub, Nat.reduceDiv, Nat.reduceLT, Nat.reduceLeDiff, Nat.reduceEqDiff, Nat.reduceBEq, Nat.reduceBNe, Int.reduceToNat, Int.reduceEq, Int.reduceLT, Int.reduceLE, Int.reduceNeg, c7, snapRow, own, roL, h, em]
      by_cases h1 : kd = 1
      · subst h1
        obtain ⟨hf0, htw2⟩ := tw.1 (.inl rfl)
        subst hf0
        rw [if_pos rfl] at hlu
        simp -implicitDefEqProofs -dsimp only [go_sem, reduceIte, reduceCtorEq, Nat.reduceAdd, Nat.reduceMul, Nat.reduceSub, Nat.reduceDiv, Nat.reduceLT, Nat.reduceLeDiff, Nat.reduceEqDiff, Nat.reduceBEq, Nat.reduceBNe, Int.reduceToNat, Int.reduceEq, Int.reduceLT, Int.reduceLE, Int.reduceNeg, c7, snapRow, own, roL, encR, h, em, rng2, tupAtE]
        refine CallF.intro st2 ?_
        simp -implicitDefEqProofs -dsimp only [go_sem, reduceIte, reduceCtorEq, Nat.reduceAdd, Nat.reduceMul, Nat.reduceSub, Nat.reduceDiv, Nat.reduceLT, Nat.reduceLeDiff, Nat.reduceEqDiff, Nat.reduceBEq, Nat.reduceBNe, Int.reduceToNat, Int.reduceEq, Int.reduceLT, Int.reduceLE, Int.reduceNeg, c7, snapRow, own, roL, encR, h, em, rng2, tupAtE, hwi]
        exact ⟨n - 1, by omega, i + 1, x, y, roL, roL, by omega, hls.1, hlu.1, htw2, by omega, .inr rfl, .inr rfl, rfl⟩
      by_cases h2 : kd = 2
      case neg =>
        have htw2 := tw.2 (by rintro (a | ⟨a, _⟩) <;> simp at a <;> omega)
        simp -implicitDefEqProofs -dsimp only [go_sem, reduceIte, reduceCtorEq, Nat.reduceAdd, Nat.reduceMul, Nat.reduceSub, Nat.reduceDiv, Nat.reduceLT, Nat.reduceLeDiff, Nat.reduceEqDiff, Nat.reduceBEq, Nat.reduceBNe, Int.reduceToNat, Int.reduceEq, Int.reduceLT, Int.reduceLE, Int.reduceNeg, c7, snapRow, own, roL, encR, h, em, rng2, tupAtE, hwi, h1, h2]
        exact ⟨n - 1, by omega, i + 1, x, u, roL, roL, by omega, hls.1, hlu0, htw2, by omega, .inr rfl, .inr rfl, rfl⟩
      subst h2
      obtain ⟨p, q, hp, hq, hpn, hqn, hpq, b, z, r, hch⟩ := two rfl rfl
      simp only at hp hq
      subst hp hq
      have hn5 := hs.wh.n5
      have hnn : s.values.length * s.values.length ≤ 25 := Nat.mul_le_mul hn5 hn5
      have hl := chan_lt hpn hqn
      have w1 := wM (a := p) (b := s.values.length) (by omega)
      have w2 := wA (a := p * s.values.length) (b := q) (by omega)
      have e3 : s.chans[p * s.values.length + q]? = some ((b, z) :: r) := by
        cases hc : s.chans[p * s.values.length + q]? with
        | none => simp [chA, hc] at hch
        | some c => simp [chA, hc] at hch; rw [hch]
      have chl := hs.wh.ch
      rw [hvs] at w1 w2 e3 hl chl
      have hr0 : (((r.length + 1 : Nat) : Int) = 0) = False := eq_false (by omega)
      have hr1 : ((0 : Int) < ((r.length + 1 : Nat) : Int)) = True := eq_true (by omega)
      have hle : (v.length * v.length ≤ p * v.length + q) = False := eq_false (by omega)
      simp -implicitDefEqProofs -dsimp only [go_sem, reduceIte, reduceCtorEq, Nat.reduceAdd, Nat.reduceMul, Nat.reduceSub, Nat.reduceDiv, Nat.reduceLT, Nat.reduceLeDiff, Nat.reduceEqDiff, Nat.reduceBEq, Nat.reduceBNe, Int.reduceToNat, Int.reduceEq, Int.reduceLT, Int.reduceLE, Int.reduceNeg, c7, snapRow, own, roL, h, em, w1, w2, chl, hl, hle, hr0, hr1, e3]
      cases b with
      | true =>
        have htw2 := tw.2 (by rintro (a | ⟨_, v2, r2, a⟩); (· simp at a); (· simp [hch] at a))
        simp -implicitDefEqProofs -dsimp only [go_sem, reduceIte, reduceCtorEq, Nat.reduceAdd, Nat.reduceMul, Nat.reduceSub, Nat.reduceDiv, Nat.reduceLT, Nat.reduceLeDiff, Nat.reduceEqDiff, Nat.reduceBEq, Nat.reduceBNe, Int.reduceToNat, Int.reduceEq, Int.reduceLT, Int.reduceLE, Int.reduceNeg, c7, snapRow, own, roL, encR, h, em, rng2, tupAtE, hwi]
        exact ⟨n - 1, by omega, i + 1, x, u, roL, roL, by omega, hls.1, hlu0, htw2, by omega, .inr rfl, .inr rfl, rfl⟩
      | false =>
        obtain ⟨hf0, htw2⟩ := tw.1 (.inr ⟨rfl, z, r, hch⟩)
        subst hf0
        rw [if_pos rfl] at hlu
        simp -implicitDefEqProofs -dsimp only [go_sem, reduceIte, reduceCtorEq, Nat.reduceAdd, Nat.reduceMul, Nat.reduceSub, Nat.reduceDiv, Nat.reduceLT, Nat.reduceLeDiff, Nat.reduceEqDiff, Nat.reduceBEq, Nat.reduceBNe, Int.reduceToNat, Int.reduceEq, Int.reduceLT, Int.reduceLE, Int.reduceNeg, c7, snapRow, own, roL, encR, h, em, rng2, tupAtE]
        refine CallF.intro st2 ?_
        simp -implicitDefEqProofs -dsimp only [go_sem, reduceIte, reduceCtorEq, Nat.reduceAdd, Nat.reduceMul, Nat.reduceSub, Nat.reduceDiv, Nat.reduceLT, Nat.reduceLeDiff, Nat.reduceEqDiff, Nat.reduceBEq, Nat.reduceBNe, Int.reduceToNat, Int.reduceEq, Int.reduceLT, Int.reduceLE, Int.reduceNeg, c7, snapRow, own, roL, encR, h, em, rng2, tupAtE, hwi]
        exact ⟨n - 1, by omega, i + 1, x, y, roL, roL, by omega, hls.1, hlu.1, htw2, by omega, .inr rfl, .inr rfl, rfl⟩
theorem markerUnseen_row (vs : List Int) (hv : vs.length < 4611686018427387904) (_ : ∀ n ∈ vs, (Lit.int .i64 n).wf = true) (cs : List Int) (hc : cs.length < 4611686018427387904) (hw : ∀ n ∈ cs, (Lit.int .u8 n).wf = true) :
    EvF T23 7 [] [.one (.sl .ro 1 (vs.map (encK .i64))), .one (.sl .ro 1 (cs.map (encK .u8)))] [] (.one (.sc (.bool true)), []) := markerUnseen_ev vs cs hv hc fun x hx => wfU (hw x hx)
end Pv

namespace Go.Proofs.Ytkgdfkhhaankkaa.markerUnseen
open Go.ChangeShapes Go.WideShapes Go.ChangeAt Go.RowKit
set_option linter.unusedVariables false
set_option linter.unusedSimpArgs false
theorem own : ownKnob Try.prog.godebug = none := by kernel_rfl
theorem laidOut : laidOutB Try.prog = true := by kernel_rfl
set_option maxRecDepth 100000 in
theorem lifted (os : Os) (started : os.Started) (H : Type) (enc : TypeId × Value → H) :
    ReturnsInHanded {} Try.checked os 7 .any (Rows.markerUnseenSpec.pre6 enc Try.prog Try.f7 Rows.markerUnseenRow.domain false) (Rows.markerUnseenSpec.post enc Try.prog Try.f7 false true false false) := by
  refine returnsInHanded_of_change_sized (C := Try.checked) own started (by kernel_rfl) Try.func7
    (ChangeSpec.witness6 (enc := enc) (C := Try.checked) false ⟨#[], #[.slice none 0 0, .slice none 0 0], []⟩ 8 (by kernel_rfl) (by kernel_rfl) (by kernel_rfl) (by kernel_rfl)) ?_
  intro W base args ds gs before hval0 hW hcnd hsz0 _
  have hval : ∀ (j : Nat) t v, Try.f7.params[j]? = some t → args[j]? = some v → Value.okWide Try.prog W .any base t v := hval0
  have hsz : (DataW.weightsEach Try.prog (Try.f7.params.toList ++ Rows.markerUnseenSpec.plain.varTypes Try.prog) (ds ++ gs)).all (· ≤ reachBytes) = true := hsz0
  have hW' := hW
  obtain ⟨p, q, hA0, hV, rfl, hfz, hnd⟩ := hW
  have hA : DataW.TrodAll enc Try.prog W 0 (fun _ => true) true Try.f7.params.toList args.toList ds p := hA0
  rw [Try.params7] at hA hval hsz
  obtain ⟨v0, vs0, d0, ds0, p0, q0, hargs, rfl, rfl, h0, r0⟩ := trodAll_cons hA
  obtain ⟨v1, vs1, d1, ds1, p1, q1, rfl, rfl, rfl, h1, r1⟩ := trodAll_cons r0
  obtain ⟨rfl, rfl, rfl⟩ := trodAll_nil r1
  obtain rfl : args = #[v0, v1] := by cases args; simp_all
  obtain ⟨rfl, rfl⟩ := trodVars_none hV
  obtain ⟨a0, len0, cap0, rfl⟩ := okWide_slice Try.underlying22 (hval 0 22 _ rfl rfl)
  have k0 := h0
  have lt0 : ∀ x ∈ p0, x.block < W.heap.size := by obtain ⟨m, hm⟩ := k0; exact DataW.trod_lt m _ _ _ hm
  obtain ⟨z0, hl0, hm0, hw0, hr0⟩ := Pv.open_row Try.underlying22 Try.underlying3 (by kernel_rfl) (hval 0 22 _ rfl rfl) k0
  have y0 := Pv.row_len hsz (j := 0) (t := 22) rfl rfl Try.underlying22 Try.underlying3 (by kernel_rfl) (by decide +kernel) k0
  have le0 : (z0.take len0).length < 4611686018427387904 := by rw [List.length_take]; omega
  have wf0 : ∀ n ∈ z0.take len0, (Lit.int .i64 n).wf = true := fun n hn => hw0 n (List.mem_of_mem_take hn)
  obtain ⟨a1, len1, cap1, rfl⟩ := okWide_slice Try.underlying34 (hval 1 34 _ rfl rfl)
  have k1 := h1
  have lt1 : ∀ x ∈ p1, x.block < W.heap.size := by obtain ⟨m, hm⟩ := k1; exact DataW.trod_lt m _ _ _ hm
  obtain ⟨z1, hl1, hm1, hw1, hr1⟩ := Pv.open_row Try.underlying34 Try.underlying5 (by kernel_rfl) (hval 1 34 _ rfl rfl) k1
  have y1 := Pv.row_len hsz (j := 1) (t := 34) rfl rfl Try.underlying34 Try.underlying5 (by kernel_rfl) (by decide +kernel) k1
  have le1 : (z1.take len1).length < 4611686018427387904 := by rw [List.length_take]; omega
  have wf1 : ∀ n ∈ z1.take len1, (Lit.int .u8 n).wf = true := fun n hn => hw1 n (List.mem_of_mem_take hn)
  clear hA0 hval0 hsz0 hsz
  obtain ⟨fuel, hev⟩ := Pv.markerUnseen_row (z0.take len0) le0 wf0 (z1.take len1) le1 wf1
  refine (Pv.entry2 (Pv.sound23 fuel) (hev fuel (Nat.le_refl _)) (cvs := [.slice a0 len0 cap0, .slice a1 len1 cap1]) ⟨_, _, rfl, rfl, hr0, ⟨_, _, rfl, rfl, hr1, rfl⟩⟩).mono fun e W' ⟨he, bel⟩ => ?_
  subst he
  exact ⟨_, rfl, _, _, _, [], _, [], hW', trodAll_mk1 (shut_bool Try.underlying4 _), (trodAll_cons_mk (Pv.Kept.trod laidOut (by kernel_rfl) (of_decide_eq_true (by kernel_rfl)) k0 bel lt0) (trodAll_cons_mk (Pv.Kept.trod laidOut (by kernel_rfl) (of_decide_eq_true (by kernel_rfl)) k1 bel lt1) trodAll_mk0)), rfl, bel.frame _, fun h => by cases h⟩
theorem over : Rows.markerUnseenRow.holds Try.pinned (OpenSpec.ofChange Rows.markerUnseenSpec) :=
  OpenClaim.holds_of_wide 7 Try.f7 rfl rfl rfl rfl rfl rfl rfl ⟨rfl, rfl, rfl, rfl, rfl⟩ rfl rfl rfl rfl rfl (by kernel_rfl) Try.func7 (by kernel_rfl)
    (of_decide_eq_true (by kernel_rfl)) (by unfold Func.isWrapper; first | (rw [if_pos (by decide +kernel)]; kernel_rfl) | (rw [if_neg (by decide +kernel)]; exact ⟨rfl, rfl⟩))
    (fun os started H enc _ => lifted os started H enc)
end Go.Proofs.Ytkgdfkhhaankkaa.markerUnseen
namespace Go.Proofs.Ytkgdfkhhaankkaa
theorem markerUnseen_holds : Rows.MarkerUnseenSaid := markerUnseen.over
end Go.Proofs.Ytkgdfkhhaankkaa
