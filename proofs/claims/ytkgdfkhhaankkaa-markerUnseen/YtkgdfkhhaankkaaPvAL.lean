import Derived.Calls
import Derived.Laws.Append
import Derived.Laws.Entries
import Derived.Laws.Cells
import Derived.Test.YtkgdfkhhaankkaaPvAK
set_option linter.all false
set_option linter.unusedVariables false
set_option linter.unusedSimpArgs false
namespace Pv
open Go
def CellOk : V → Value → Prop
  | .sc x, v => v = x ∧ isSca x = true
  | .sl l _ rows, v => l = .own ∧ rows = [] ∧ v = .slice none 0 0
  | _, _ => False
def CellsOk : List V → List Value → Prop
  | [], [] => True
  | a :: r, b :: q => CellOk a b ∧ CellsOk r q
  | _, _ => False
def CstOk : T → Value → Prop
  | .one (.clo f [] []), v => v = .func (.func f) #[] #[]
  | .one .dead, _ => True
  | .one x, v => CellOk x v
  | .agg row, .agg cs => CellsOk row cs.toList
  | _, _ => False
def OpdOk : Operand → O → Prop
  | .tmp i, .t j => i = j ∧ i < 5000
  | .const v, .c t => CstOk t v
  | .func f, .c t => t = .one (.clo f [] [])
  | _, _ => False
def OpdsOk : List Operand → List O → Prop
  | [], [] => True
  | a :: r, b :: q => OpdOk a b ∧ OpdsOk r q
  | _, _ => False
def ev (tm : Array Value) : Operand → Value
  | .tmp t => tm.getD t undef
  | .const v => v
  | .global g => .pointer (some ⟨g, 0, none⟩)
  | .func f => .func (.func f) #[] #[]
theorem eval_ev (a : Act) : a.eval = ev a.tmps := by funext x; cases x <;> rfl
section
variable {E : Env} {w : World} {β : Nat → Option Nat} {s : St} {tm : Array Value} {g : Nat → List Nat}
theorem CellOk.rep : ∀ {x : V} {v : Value}, CellOk x v → Rep E w β x v []
  | .sc _, _, h => by simp only [CellOk] at h; simp [Rep, h.1, h.2]
  | .sl l sz rows, v, h => by
    simp only [CellOk] at h
    obtain ⟨rfl, rfl, rfl⟩ := h
    simp only [Rep]
    exact ⟨none, 0, 0, [], [], rfl, rfl, Nat.le_refl _, by simp [RepRows], by simp [SlOk], by simp⟩
  | .ptr .., _, h => h.elim
  | .clo .., _, h => h.elim
  | .mref .., _, h => h.elim
  | .mp .., _, h => h.elim
  | .dead, _, h => h.elim
theorem CellsOk.rep : ∀ {x : List V} {v : List Value}, CellsOk x v → RepRow E w β x v []
  | [], [], _ => by simp [RepRow]
  | a :: r, b :: q, h => by
    simp only [CellsOk] at h
    simp only [RepRow]
    exact ⟨b, q, [], [], rfl, rfl, h.1.rep, h.2.rep⟩
  | [], _ :: _, h => h.elim
  | _ :: _, [], h => h.elim
theorem CstOk.tok {t : T} {v : Value} (h : CstOk t v) : TOk E w β s tm t v [] := by
  unfold CstOk at h
  split at h
  · subst h; simp only [TOk, Rep]; exact ⟨trivial, #[], #[], rfl, by simp [RepPs], by simp [RepPs]⟩
  · simp [TOk, Rep]
  · exact h.rep
  · simp only [TOk]; exact ⟨_, rfl, h.rep⟩
  · exact h.elim
theorem cvOf_low {i : Nat} (h : i < 5000) : cvOf tm i = tm.getD i undef := by simp [cvOf, undef, show ¬ 30000 ≤ i from by omega]
theorem isBox_low {i : Nat} (h : i < 5000) : isBox i = false := by simp [isBox]; omega
theorem opd_tok (hI : Inv E w β s tm g) {x : Operand} {X : O} {t : T} (ho : OpdOk x X) (hv : s.opv X = some t) :
    ∃ fp, TOk E w β s tm t (ev tm x) fp ∧ ((∃ i, X = .t i ∧ x = .tmp i ∧ i < 5000 ∧ fp = g i) ∨ ((∃ y, X = .c y) ∧ fp = [])) := by
  cases x <;> cases X <;> simp only [OpdOk] at ho
  · rename_i i j
    obtain ⟨rfl, hlt⟩ := ho
    simp only [St.opv] at hv
    split at hv
    · rename_i y hy
      obtain rfl := Option.some.inj hv
      have := hI.roots i y.1 y.2 hy
      simp only [RootOk, isBox_low hlt, Bool.false_eq_true, if_false, cvOf_low hlt] at this
      exact ⟨g i, this, .inl ⟨i, rfl, rfl, hlt, rfl⟩⟩
    · simp at hv
  · simp only [St.opv, Option.some.injEq] at hv
    subst hv
    exact ⟨[], ho.tok, .inr ⟨⟨_, rfl⟩, rfl⟩⟩
  · simp only [St.opv, Option.some.injEq] at hv
    subst hv; subst ho
    refine ⟨[], ?_, .inr ⟨⟨_, rfl⟩, rfl⟩⟩
    simp only [TOk, Rep, ev]; exact ⟨trivial, #[], #[], rfl, by simp [RepPs], by simp [RepPs]⟩
theorem opd_sc (hI : Inv E w β s tm g) {x : Operand} {X : O} {v : Value} (ho : OpdOk x X) (hv : s.sc X = some v) : ev tm x = v ∧ isSca v = true := by
  simp only [St.sc] at hv
  split at hv
  · rename_i v' h
    obtain rfl := Option.some.inj hv
    obtain ⟨fp, h1, _⟩ := opd_tok hI ho h
    simp only [TOk, Rep] at h1
    exact ⟨h1.1, h1.2.1⟩
  · simp at hv
theorem opd_int (hI : Inv E w β s tm g) {x : Operand} {X : O} {n : Int} (ho : OpdOk x X) (hv : s.int X = some n) : ∃ k, ev tm x = .int k n := by
  simp only [St.int] at hv
  split at hv
  · rename_i k n' h
    obtain rfl := Option.some.inj hv
    obtain ⟨fp, h1, _⟩ := opd_tok hI ho h
    simp only [TOk, Rep] at h1
    exact ⟨k, h1.1⟩
  · simp at hv
theorem shiftPath_zero : ∀ (q : List (Nat × Nat × Nat)), shiftPath q 0 = q
  | [] => rfl
  | [(i, sz, o)] => rfl
  | a :: b :: q => by simp only [shiftPath]; rw [shiftPath_zero (b :: q)]
theorem shift_zero (p : Pl) : shift p 0 = p := by
  obtain ⟨r, off, path, ver⟩ := p
  cases path with
  | nil => rfl
  | cons a q => simp only [shift]; rw [shiftPath_zero]
theorem cell_rep (hI : Inv E w β s tm g) {p : Pl} {v : V} (h : s.cell p = some v) (hd : v ≠ .dead) :
    ∃ c f, plVal w β tm p = some c ∧ Rep E w β v c f ∧ ∀ b ∈ f, b ∈ g p.r := by
  obtain ⟨r, o, h1, h2⟩ := cell_place h
  obtain ⟨cs, f, k1, k2, k3, _⟩ := hI.seg h1
  obtain ⟨c1, c, c2, f1, gq, f2, e1, e2, e3, e4, _, _⟩ := k1.at h2
  have := k3 0 v (by simpa using h2) hd
  rw [shift_zero] at this
  refine ⟨c, gq, ?_, e4, fun b hb => k2 b (by rw [e2]; simp [hb])⟩
  rw [this, Nat.add_zero, e1, ← e3]; simp
structure Lies (E : Env) (w : World) (β : Nat → Option Nat) (sz : Nat) (rows : List (List V)) (a : Option Addr) (cs : List Value) (f : List Nat) : Prop where
  rep : RepRows E w β sz rows cs f
  at' : ∀ ad, a = some ad → ad.spot = none ∧ RowAt w ad.block ad.off cs ∧ ad.block < w.heap.size
  nil : a = none → rows = [] ∧ cs = []
theorem Rep.lies {l : Lab} {sz : Nat} {rows : List (List V)} {c : Value} {f : List Nat} (h : Rep E w β (.sl l sz rows) c f) :
    ∃ a cap cs f', c = .slice a rows.length cap ∧ rows.length ≤ cap ∧ Lies E w β sz rows a cs f' ∧ (∀ b ∈ f', b ∈ f) ∧ (a = none → cap = 0) := by
  simp only [Rep] at h
  obtain ⟨a, len, cap, cs, f', rfl, rfl, h3, h4, h5, h6⟩ := h
  cases a with
  | none =>
    simp only [SlOk] at h5
    have hr : rows = [] := List.length_eq_zero_iff.1 h5.1
    subst hr
    simp only [RepRows] at h4
    exact ⟨none, cap, cs, f', rfl, h3, ⟨by simp only [RepRows]; exact h4, by simp, fun _ => ⟨rfl, h4.1⟩⟩, by simp [h4.2], fun _ => h5.2.1⟩
  | some ad =>
    simp only [SlOk] at h5
    refine ⟨some ad, cap, cs, f', rfl, h3, ⟨h4, ?_, by simp⟩, ?_, by simp⟩
    · intro ad' e; obtain rfl := Option.some.inj e; exact ⟨h5.1, h5.2.1, h5.2.2.1⟩
    · rcases h5.2.2.2 with ⟨_, e, _⟩ | ⟨_, _, e, _⟩
      · rw [e]; exact fun b hb => List.mem_cons_of_mem _ hb
      · rw [e]; simp
theorem add_spot {a : Addr} (h : a.spot = none) (n : Nat) : a.add n = ⟨a.block, a.off + n, none⟩ := by
  obtain ⟨b, o, sp⟩ := a
  simp only at h; subst h
  simp [Addr.add]
theorem Lies.cut {sz : Nat} {rows : List (List V)} {a : Option Addr} {cs : List Value} {f : List Nat} (h : Lies E w β sz rows a cs f) {lo hi : Nat} (h1 : lo ≤ hi) (h2 : hi ≤ rows.length) {a2 : Option Addr}
    (ha : a2 = a.map (·.add (lo * sz)) ∨ (a2 = a ∧ lo = hi)) :
    ∃ cs' f', Lies E w β sz ((rows.drop lo).take (hi - lo)) a2 cs' f' ∧ ∀ b ∈ f', b ∈ f := by
  have e : rows = rows.take lo ++ ((rows.drop lo).take (hi - lo) ++ (rows.drop lo).drop (hi - lo)) := by rw [List.take_append_drop, List.take_append_drop]
  have hr := h.rep
  rw [e] at hr
  obtain ⟨c1, d, f1, f2, rfl, rfl, k3, k4⟩ := hr.split
  obtain ⟨c2, c3, g2, g3, rfl, rfl, k5, k6⟩ := k4.split
  have hl1 : c1.length = lo * sz := by rw [k3.len, List.length_take, Nat.min_eq_left (by omega)]
  refine ⟨c2, g2, ⟨k5, ?_, ?_⟩, by simp; exact fun b hb => .inr (.inl hb)⟩
  · intro ad e2
    rcases ha with ha | ⟨ha, hlo⟩
    · cases a with
      | none => rw [ha] at e2; simp at e2
      | some a =>
        rw [ha] at e2; simp only [Option.map_some, Option.some.injEq] at e2
        obtain ⟨m1, m2, m3⟩ := h.at' a rfl
        rw [add_spot m1] at e2
        subst e2
        refine ⟨rfl, ?_, m3⟩
        have := (RowAt.append.1 m2).2
        rw [hl1] at this
        exact (RowAt.append.1 this).1
    · rw [ha] at e2
      obtain ⟨m1, m2, m3⟩ := h.at' ad e2
      have : c2 = [] := by
        have := k5.len
        rw [hlo] at this
        simpa using this
      subst this
      exact ⟨m1, fun j v hj => by simp at hj, m3⟩
  · intro e2
    have hn : a = none := by
      rcases ha with ha | ⟨ha, _⟩
      · cases a with
        | none => rfl
        | some a => rw [ha] at e2; simp at e2
      · rw [← ha]; exact e2
    obtain ⟨n1, n2⟩ := h.nil hn
    have : c2 = [] := by
      rw [List.append_eq_nil_iff] at n2
      exact (List.append_eq_nil_iff.1 n2.2).1
    exact ⟨by rw [n1]; simp, this⟩
end
end Pv

set_option linter.unusedVariables false
set_option linter.unusedSimpArgs false
namespace Pv
open Go
section
variable {E : Env} {w : World} {β : Nat → Option Nat} {s : St} {tm : Array Value} {g : Nat → List Nat}
structure SvOk (E : Env) (w : World) (β : Nat → Option Nat) (s : St) (tm : Array Value) (g : Nat → List Nat) (sv : Sv) (c : Value) : Prop where
  says : ∃ a cap cs f, c = .slice a sv.rows.length cap ∧ sv.rows.length ≤ cap ∧ Lies E w β sv.sz sv.rows a cs f ∧
    (sv.p = none → (a = none ∧ cap = 0 ∧ sv.rows = []) ∨ (f = [] ∧ sv.lab ≠ .own ∧ ∃ ad, a = some ad ∧ LabOk E sv.lab ad.block))
  place : ∀ p lo capped, sv.p = some (p, lo, capped) → ∃ R a0 cap0 fR, s.cell p = some (.sl .own sv.sz R) ∧ plVal w β tm p = some (.slice a0 R.length cap0) ∧
    Rep E w β (.sl .own sv.sz R) (.slice a0 R.length cap0) fR ∧ (∀ b ∈ fR, b ∈ g p.r) ∧ AlOk s p ∧ sv.rows = (R.drop lo).take sv.rows.length ∧ lo + sv.rows.length ≤ R.length ∧
    c = cutVal sv.sz lo (lo + sv.rows.length) capped a0 cap0
theorem labOk_rad {l : Lab} {b : Nat} (h : LabOk E l b) : ¬ E.own b ∨ E.tag b ≠ none := by
  cases l with
  | own => exact h.elim
  | ro => exact .inl h
  | lent t => rcases h with h | h
              · exact .inl h
              · exact .inr (by obtain ⟨q, h, _⟩ := h; rw [h]; simp)
  | part t => rcases h with h | h
              · exact .inl h
              · exact .inr (by obtain ⟨q, h, _⟩ := h; rw [h]; simp)
theorem Rep.lies_ro {l : Lab} {sz : Nat} {rows : List (List V)} {c : Value} {f : List Nat} (hl : l ≠ .own) (h : Rep E w β (.sl l sz rows) c f) :
    ∃ a cap cs f', c = .slice a rows.length cap ∧ rows.length ≤ cap ∧ Lies E w β sz rows a cs f' ∧ ((a = none ∧ cap = 0 ∧ rows = []) ∨ (f' = [] ∧ l ≠ .own ∧ ∃ ad, a = some ad ∧ LabOk E l ad.block)) := by
  have h0 := h
  obtain ⟨a, cap, cs, f', rfl, h2, h3, _⟩ := h.lies
  simp only [Rep] at h0
  obtain ⟨a', len, cap', cs', f'', e1, e2, _, k4, k5, _⟩ := h0
  simp only [Value.slice.injEq] at e1
  obtain ⟨rfl, rfl, rfl⟩ := e1
  cases a with
  | none => exact ⟨none, cap, cs, f', rfl, h2, h3, .inl ⟨rfl, k5.2.1, (h3.nil rfl).1⟩⟩
  | some ad =>
    simp only [SlOk] at k5
    rcases k5.2.2.2 with ⟨e, _⟩ | ⟨_, e2, e3, e4⟩
    · exact absurd e hl
    · subst e3
      exact ⟨some ad, cap, cs', [], rfl, h2, ⟨k4, fun ad' e => by obtain rfl := Option.some.inj e; exact ⟨k5.1, k5.2.1, k5.2.2.1⟩, by simp⟩, .inr ⟨rfl, hl, ad, rfl, e4⟩⟩
theorem alOk_tmp {i : Nat} (h : i < 5000) {x : Slot} (hg : s.get i = some x) : AlOk s (Pl.ofTmp s i) := by
  refine ⟨by simp [Pl.ofTmp]; omega, x.1, x.2, hg, ?_⟩
  simp [Pl.ofTmp, St.ver, hg]
theorem plVal_tmp {i : Nat} (h : i < 5000) {c : Value} (hc : cvOf tm i = c) (hn : ∀ a, c ≠ .agg a) : plVal w β tm (Pl.ofTmp s i) = some c := by
  simp only [plVal, Pl.ofTmp, topVal, isBox_low h, Bool.false_eq_true, if_false, hc]
  cases c <;> first | simp; done | exact absurd rfl (hn _)
theorem cell_tmp {i : Nat} {v : V} {n : Nat} (h : s.get i = some (.one v, n)) : s.cell (Pl.ofTmp s i) = some v := by
  simp [St.cell, St.place, Pl.ofTmp, St.ver, h, T.row?, getRow]
theorem cut_whole (sz : Nat) {n cap : Nat} {a : Option Addr} (h : n ≤ cap) (hn : a = none → cap = 0) (hs : ∀ ad, a = some ad → ad.spot = none) : cutVal sz 0 n false a cap = .slice a n cap := by
  simp only [cutVal, Bool.false_eq_true, if_false, Nat.sub_zero, Nat.zero_mul]
  by_cases hc : cap = 0
  · rw [if_pos hc]
  · rw [if_neg hc]
    cases a with
    | none => rfl
    | some ad =>
      rw [Option.map_some, add_spot (hs ad rfl)]
      have := hs ad rfl
      obtain ⟨b, o, sp⟩ := ad
      simp only at this; subst this; rfl
theorem sv_own (hI : Inv E w β s tm g) {p : Pl} {sz : Nat} {R : List (List V)} (hc : s.cell p = some (.sl .own sz R)) (hal : AlOk s p) {c : Value} {lo hi : Nat} {cap : Bool} {a : Option Addr} {cap0 : Nat}
    (hv : plVal w β tm p = some (.slice a R.length cap0)) (h1 : lo ≤ hi) (h2 : hi ≤ R.length) (he : c = cutVal sz lo hi cap a cap0) :
    SvOk E w β s tm g ⟨some (p, lo, cap), sz, (R.drop lo).take (hi - lo), .own⟩ c := by
  obtain ⟨c', f, k1, k2, k3⟩ := cell_rep hI hc (by simp)
  rw [hv] at k1
  obtain rfl := Option.some.inj k1
  obtain ⟨a', cap', cs, f', e, hcap, hl, _, hz⟩ := k2.lies
  simp only [Value.slice.injEq] at e
  obtain ⟨rfl, _, rfl⟩ := e
  have hlen : ((R.drop lo).take (hi - lo)).length = hi - lo := by simp; omega
  refine ⟨?_, ?_⟩
  · obtain ⟨cs', f'', m1, _⟩ := hl.cut h1 h2 (a2 := if (if cap then hi else cap0) = lo then a else a.map (·.add (lo * sz))) (by
      by_cases h : (if cap then hi else cap0) = lo
      · rw [if_pos h]
        refine .inr ⟨rfl, ?_⟩
        cases cap <;> simp at h <;> omega
      · rw [if_neg h]; exact .inl rfl)
    refine ⟨_, (if cap then hi else cap0) - lo, cs', f'', ?_, ?_, m1, by simp⟩
    · rw [he, hlen]; rfl
    · show ((R.drop lo).take (hi - lo)).length ≤ _
      rw [hlen]; cases cap <;> simp <;> omega
  · intro p' lo' capped e
    simp only [Option.some.injEq, Prod.mk.injEq] at e
    obtain ⟨rfl, rfl, rfl⟩ := e
    refine ⟨R, a, cap0, f, hc, hv, k2, k3, hal, ?_, ?_, ?_⟩
    · show (R.drop lo).take (hi - lo) = _
      simp only [hlen]
    · show lo + ((R.drop lo).take (hi - lo)).length ≤ _
      rw [hlen]; omega
    · show c = cutVal sz lo (lo + ((R.drop lo).take (hi - lo)).length) cap a cap0
      rw [hlen, he]; congr 1; omega
theorem sv_ro {l : Lab} {sz : Nat} {rows : List (List V)} {c : Value} {f : List Nat} (hl : l ≠ .own) (h : Rep E w β (.sl l sz rows) c f) : SvOk E w β s tm g ⟨none, sz, rows, l⟩ c := by
  obtain ⟨a, cap, cs, f', h1, h2, h3, h4⟩ := h.lies_ro hl
  exact ⟨⟨a, cap, cs, f', h1, h2, h3, fun _ => h4⟩, by simp⟩
theorem slice_ok (hI : Inv E w β s tm g) {x : Operand} {X : O} {sv : Sv} (ho : OpdOk x X) (hv : s.slice X = some sv) : SvOk E w β s tm g sv (ev tm x) := by
  unfold St.slice at hv
  split at hv
  · -- an owned temporary
    rename_i sz rows i h
    obtain rfl := Option.some.inj hv
    obtain ⟨fp, h1, h2⟩ := opd_tok hI ho h
    rcases h2 with ⟨j, e, e2, hlt, rfl⟩ | ⟨⟨y, e⟩, _⟩
    · simp only [O.t.injEq] at e; subst e; subst e2
      simp only [TOk] at h1
      simp only [St.opv] at h
      split at h
      case h_2 => simp at h
      rename_i y hy
      obtain ⟨t0, n0⟩ := y
      simp only [Option.some.injEq] at h; subst h
      obtain ⟨a, cap, cs, f', e, hcap, hl, _, hz⟩ := h1.lies
      have hcv : cvOf tm i = ev tm (.tmp i) := by rw [cvOf_low hlt]; rfl
      have hp := plVal_tmp (w := w) (β := β) (s := s) hlt hcv (by rw [e]; simp)
      have hw := cut_whole sz hcap hz (fun ad h => (hl.at' ad h).1)
      have := sv_own hI (cell_tmp hy) (alOk_tmp hlt hy) (c := ev tm (.tmp i)) (lo := 0) (hi := rows.length) (cap := false) (by rw [hp, e]) (Nat.zero_le _) (Nat.le_refl _) (by rw [e, hw])
      simpa using this
    · simp at e
  · rename_i l sz rows hne h
    obtain rfl := Option.some.inj hv
    obtain ⟨fp, h1, h2⟩ := opd_tok hI ho h
    simp only [TOk] at h1
    by_cases hl : l = .own
    · subst hl
      rcases h2 with ⟨j, e, e2, hlt, rfl⟩ | ⟨⟨y, e⟩, _⟩
      · exact (hne _ e rfl).elim
      · subst e
        cases x with
        | tmp i => exact ho.elim
        | global i => exact ho.elim
        | func f => simp only [OpdOk] at ho; subst ho; simp [St.opv] at h
        | const v =>
          simp only [St.opv, Option.some.injEq] at h; subst h
          simp only [OpdOk, CstOk, CellOk] at ho
          obtain ⟨_, rfl, rfl⟩ := ho
          exact ⟨⟨none, 0, [], [], rfl, Nat.le_refl _, ⟨by simp [RepRows], by simp, fun _ => ⟨rfl, rfl⟩⟩, fun _ => .inl ⟨rfl, rfl, rfl⟩⟩, by simp⟩
    · exact sv_ro hl h1
  · rename_i p h
    obtain ⟨fp, h1, _⟩ := opd_tok hI ho h
    simp only [TOk] at h1
    split at hv
    · rename_i sz rows hc
      obtain rfl := Option.some.inj hv
      obtain ⟨c', f, k1, k2, k3⟩ := cell_rep hI hc (by simp)
      have := h1.2.2 _ _ _ hc
      rw [k1] at this
      obtain rfl := Option.some.inj this
      obtain ⟨a, cap, cs, f', e, hcap, hl, _, hz⟩ := k2.lies
      have := sv_own hI hc h1.2.1 (c := ev tm x) (lo := 0) (hi := rows.length) (cap := false) (by rw [k1, e]) (Nat.zero_le _) (Nat.le_refl _) (by rw [e, cut_whole sz hcap hz (fun ad h => (hl.at' ad h).1)])
      simpa using this
    · rename_i l sz rows hne hc
      obtain rfl := Option.some.inj hv
      obtain ⟨c', f, k1, k2, k3⟩ := cell_rep hI hc (by simp)
      have := h1.2.2 _ _ _ hc
      rw [k1] at this
      obtain rfl := Option.some.inj this
      exact sv_ro hne k2
    · simp at hv
  · rename_i p lo hi cp h
    obtain ⟨fp, h1, _⟩ := opd_tok hI ho h
    simp only [TOk] at h1
    split at hv
    · rename_i sz rows hc
      obtain rfl := Option.some.inj hv
      obtain ⟨a, cap, m1, m2, m3, m4⟩ := h1.2.2 _ _ _ hc
      exact sv_own hI hc h1.2.1 m1 m2 m3 m4
    · rename_i l sz rows hne hc
      split at hv
      · simp at hv
      rename_i hcp
      obtain rfl := Option.some.inj hv
      obtain ⟨a, cap, m1, m2, m3, m4⟩ := h1.2.2 _ _ _ hc
      obtain ⟨c', f, k1, k2, k3⟩ := cell_rep hI hc (by simp)
      rw [m1] at k1
      obtain rfl := Option.some.inj k1
      have hl : l ≠ .own := hne
      obtain ⟨a', cap', cs, f', e, hcap, hL, hro⟩ := k2.lies_ro hl
      simp only [Value.slice.injEq] at e
      obtain ⟨rfl, _, rfl⟩ := e
      have hlen : ((rows.drop lo).take (hi - lo)).length = hi - lo := by simp; omega
      simp only [Bool.not_eq_true] at hcp
      subst hcp
      obtain ⟨cs', f'', n1, n2⟩ := hL.cut m2 m3 (a2 := if cap = lo then a else a.map (·.add (lo * sz))) (by
        split
        · exact .inr ⟨rfl, by omega⟩
        · exact .inl rfl)
      refine ⟨⟨_, cap - lo, cs', f'', by rw [m4]; simp only [cutVal, Bool.false_eq_true, if_false]; rw [hlen], by show ((rows.drop lo).take (hi - lo)).length ≤ _; rw [hlen]; omega, n1, fun _ => ?_⟩, by simp⟩
      rcases hro with ⟨e1, e2, hro⟩ | ⟨hf, hl', ad, e2, e3⟩
      · left
        subst e1; subst e2; subst hro
        refine ⟨?_, Nat.zero_sub _, by simp⟩
        split <;> rfl
      · refine .inr ⟨?_, hl', ?_⟩
        · subst hf
          cases f'' with
          | nil => rfl
          | cons b _ => exact absurd (n2 b List.mem_cons_self) (by simp)
        · subst e2
          split
          · exact ⟨ad, rfl, e3⟩
          · refine ⟨_, rfl, ?_⟩
            show LabOk E l (ad.add (lo * sz)).block
            rw [add_spot (hL.at' ad rfl).1]; exact e3
    · simp at hv
  · simp at hv
end
end Pv

set_option linter.unusedVariables false
set_option linter.unusedSimpArgs false
namespace Pv
open Go
structure Fr (E : Env) (w : World) (β : Nat → Option Nat) (g : Nat → List Nat) (E2 : Env) (w2 : World) (β2 : Nat → Option Nat) (g2 : Nat → List Nat) (fts : List (List Nat)) : Prop where
  wf : Wf w w2
  size : w.heap.size ≤ w2.heap.size
  same : ∀ b, b < w.heap.size → (∀ i, b ∉ g i) → w2.heap[b]? = w.heap[b]? ∧ (E2.own b ↔ E.own b)
  shr : ∀ b, b < w.heap.size → E2.own b → E.own b
  tag : E2.tag = E.tag
  hdr : E2.hdr = E.hdr
  sub : ∀ i b, b ∈ g2 i → (∃ j, b ∈ g j) ∨ w.heap.size ≤ b
  res : ∀ b ∈ fts.flatten, (∃ j, b ∈ g j) ∨ w.heap.size ≤ b
  ext : ∀ r, ExtR r → β2 r = β r
def ROk (E : Env) (w : World) (β : Nat → Option Nat) (s : St) (tm : Array Value) (g : Nat → List Nat) (t : T) (cv : Value) (fts : List (List Nat)) : Prop :=
  fts.flatten.Nodup ∧ (∀ b ∈ fts.flatten, E.own b ∧ E.tag b = none ∧ b < w.heap.size) ∧ (∀ i, ∀ b ∈ fts.flatten, b ∉ g i) ∧
  match t with
  | .tup ts => ∃ vs : Array Value, cv = .tuple vs ∧ vs.size = ts.length ∧ fts.length = ts.length ∧ ts.length ≤ 100 ∧ ts.all T.solid = true ∧
      ∀ (i : Nat) (t : T) (v : Value) (f : List Nat), ts[i]? = some t → vs[i]? = some v → fts[i]? = some f → TOk E w β s tm t v f
  | t => ∃ f, fts = [f] ∧ TOk E w β s tm t cv f
def PinOk (cx : Cx) (w : World) (β : Nat → Option Nat) (s : St) (tm : Array Value) : Prop :=
  ∀ p r, (p, r) ∈ cx.pin → p < 5000 ∧ (r ≠ p → isBox r = true ∧ ∀ x, s.get r = some x → ∀ j c, (cvOf tm p).cells.toList[j]? = some c → topVal w β tm r j = some c)
def Out (cx : Cx) (E : Env) (w : World) (β : Nat → Option Nat) (s : St) (tm : Array Value) (g : Nat → List Nat) (t : T) (s2 : St) (cv : Value) (w2 : World) : Prop :=
  ∃ E2 β2 g2 fts, Inv E2 w2 β2 s2 tm g2 ∧ Fr E w β g E2 w2 β2 g2 fts ∧ ROk E2 w2 β2 s2 tm g2 t cv fts ∧ (PinOk cx w β s tm → PinOk cx w2 β2 s2 tm)
section
variable {E : Env} {w : World} {β : Nat → Option Nat} {s : St} {tm : Array Value} {g : Nat → List Nat} {cx : Cx}
theorem Fr.refl : Fr E w β g E w β g [] := ⟨Wf.refl w, Nat.le_refl _, fun _ _ _ => ⟨rfl, Iff.rfl⟩, fun _ _ h => h, rfl, rfl, fun i b h => .inl ⟨i, h⟩, by simp, fun _ _ => rfl⟩
theorem Fr.trans {E2 E3 : Env} {w2 w3 : World} {β2 β3 : Nat → Option Nat} {g2 g3 : Nat → List Nat} {f2 f3 : List (List Nat)} (h : Fr E w β g E2 w2 β2 g2 f2) (k : Fr E2 w2 β2 g2 E3 w3 β3 g3 f3) : Fr E w β g E3 w3 β3 g3 f3 := by
  have hsub : ∀ b, b < w.heap.size → (∀ i, b ∉ g i) → ∀ i, b ∉ g2 i := by
    intro b hb hn i hi
    rcases h.sub i b hi with ⟨j, hj⟩ | hj
    · exact hn j hj
    · omega
  refine ⟨h.wf.trans k.wf, Nat.le_trans h.size k.size, ?_, ?_, k.tag.trans h.tag, k.hdr.trans h.hdr, ?_, ?_, ?_⟩
  · intro b hb hn
    obtain ⟨h1, h2⟩ := h.same b hb hn
    obtain ⟨k1, k2⟩ := k.same b (Nat.lt_of_lt_of_le hb h.size) (hsub b hb hn)
    exact ⟨k1.trans h1, k2.trans h2⟩
  · intro b hb ho
    exact h.shr b hb (k.shr b (Nat.lt_of_lt_of_le hb h.size) ho)
  · intro i b hb
    rcases k.sub i b hb with ⟨j, hj⟩ | hj
    · exact h.sub j b hj
    · exact .inr (Nat.le_trans h.size hj)
  · intro b hb
    rcases k.res b hb with ⟨j, hj⟩ | hj
    · exact h.sub j b hj
    · exact .inr (Nat.le_trans h.size hj)
  · intro r h1
    rw [k.ext r h1, h.ext r h1]
theorem ROk.one {t : T} {cv : Value} {f : List Nat} (ht : ∀ ts, t ≠ .tup ts) (h : TOk E w β s tm t cv f) (hn : f.Nodup) (ho : ∀ b ∈ f, E.own b ∧ E.tag b = none ∧ b < w.heap.size) (hd : ∀ i, ∀ b ∈ f, b ∉ g i) :
    ROk E w β s tm g t cv [f] := by
  refine ⟨by simpa using hn, by simpa using ho, by simpa using hd, ?_⟩
  cases t <;> first | exact ⟨f, rfl, h⟩ | exact absurd rfl (ht _)
theorem Fr.nil {E2 : Env} {w2 : World} {β2 : Nat → Option Nat} {g2 : Nat → List Nat} {fts : List (List Nat)} (h : Fr E w β g E2 w2 β2 g2 fts) : Fr E w β g E2 w2 β2 g2 [] := { h with res := by simp }
theorem Out.pure (hI : Inv E w β s tm g) {t : T} {cv : Value} (ht : ∀ ts, t ≠ .tup ts) (h : TOk E w β s tm t cv []) : Out cx E w β s tm g t s cv w :=
  ⟨E, β, g, [[]], hI, { Fr.refl with res := by simp }, ROk.one ht h (by simp) (by simp) (by simp), id⟩
theorem topVal_set {d r j : Nat} {cv : Value} (hd : d < 5000) (h : isBox r = true) : topVal w β (tm.setIfInBounds d cv) r j = topVal w β tm r j := by simp [topVal, h]
theorem isBox_ge {r : Nat} (h : isBox r = true) : 5000 ≤ r ∧ r < 30000 := by simpa [isBox] using h
theorem PinOk.put (h : PinOk cx w β s tm) {d : Nat} {cv : Value} (hd : d < 5000) (hn : cx.pin.any (fun x => x.1 == d || x.2 == d) = false) {s2 : St} (hs : ∀ r, isBox r = true → s2.get r = s.get r) :
    PinOk cx w β s2 (tm.setIfInBounds d cv) := by
  intro p r hp
  obtain ⟨h1, h2⟩ := h p r hp
  have hnp : d ≠ p ∧ d ≠ r := by
    simp only [List.any_eq_false, Bool.or_eq_true, beq_iff_eq, not_or, Prod.forall] at hn
    exact ⟨fun e => (hn p r hp).1 e.symm, fun e => (hn p r hp).2 e.symm⟩
  refine ⟨h1, fun hr => ?_⟩
  obtain ⟨h3, h4⟩ := h2 hr
  refine ⟨h3, fun x hx j c hc => ?_⟩
  rw [hs r h3] at hx
  rw [cvOf_set (by omega) (fun e => hnp.1 e.symm)] at hc
  rw [topVal_set hd h3]
  exact h4 x hx j c hc
theorem tupAt_eq (d i : Nat) : tupAt d i = 30000 + 100 * d + i := rfl
theorem isBox_tup (d i : Nat) : isBox (tupAt d i) = false := by
  have : ¬ (tupAt d i < 30000) := by rw [tupAt_eq]; omega
  simp [isBox, this]
theorem putTup_get (d : Nat) : ∀ (ts : List T) (s : St) (i j : Nat), i + ts.length ≤ 100 → (putTup s d i ts).get j = if tupAt d i ≤ j ∧ j < tupAt d (i + ts.length) then (ts[j - tupAt d i]?).map (fun t => (t, 0)) else s.get j
  | [], s, i, j, _ => by
    simp only [putTup, List.length_nil, Nat.add_zero]
    rw [if_neg (by omega)]
  | t :: ts, s, i, j, h => by
    simp only [List.length_cons] at h
    simp only [putTup, List.length_cons]
    rw [putTup_get d ts _ (i + 1) j (by omega)]
    have e1 : tupAt d i = 30000 + 100 * d + i := rfl
    have e2 : tupAt d (i + 1) = 30000 + 100 * d + (i + 1) := rfl
    have e3 : tupAt d (i + 1 + ts.length) = 30000 + 100 * d + (i + 1 + ts.length) := rfl
    have e4 : tupAt d (i + (ts.length + 1)) = 30000 + 100 * d + (i + (ts.length + 1)) := rfl
    by_cases h1 : tupAt d i = j
    · subst h1
      rw [if_neg (by omega), if_pos (by omega), get_set_same]
      simp
    · rw [get_set_ne _ _ h1]
      by_cases h2 : tupAt d (i + 1) ≤ j ∧ j < tupAt d (i + 1 + ts.length)
      · rw [if_pos h2, if_pos (by omega)]
        rw [show j - tupAt d i = (j - tupAt d (i + 1)) + 1 from by omega, List.getElem?_cons_succ]
      · rw [if_neg h2, if_neg (by omega)]
theorem tok_solid {t : T} {cv : Value} {f : List Nat} (h : t.solid = true) {s2 : St} {tm2 : Array Value} (k : TOk E w β s tm t cv f) : TOk E w β s2 tm2 t cv f := by
  cases t <;> simp [T.solid] at h
  · exact k
  · exact k
theorem inv_putTup {d : Nat} : ∀ (ts : List T) (fts : List (List Nat)) (s : St) (g : Nat → List Nat) (i : Nat), Inv E w β s tm g → ts.all T.solid = true → i + ts.length ≤ 100 → fts.length = ts.length →
    (∀ j, tupAt d i ≤ j → j < tupAt d (i + ts.length) → s.get j = none) →
    (∀ k t f, ts[k]? = some t → fts[k]? = some f → TOk E w β s tm t (cvOf tm (tupAt d (i + k))) f) →
    fts.flatten.Nodup → (∀ b ∈ fts.flatten, E.own b ∧ E.tag b = none ∧ b < w.heap.size) → (∀ j, ∀ b ∈ fts.flatten, b ∉ g j) →
    ∃ g2, Inv E w β (putTup s d i ts) tm g2 ∧ ∀ j b, b ∈ g2 j → b ∈ g j ∨ b ∈ fts.flatten
  | [], fts, s, g, i, hI, _, _, hl, _, _, _, _, _ => ⟨g, hI, fun j b h => .inl h⟩
  | t :: ts, [], s, g, i, hI, _, _, hl, _, _, _, _, _ => by simp at hl
  | t :: ts, f :: fts, s, g, i, hI, hs, h100, hl, hab, htk, hn, ho, hd => by
    simp only [List.length_cons] at h100 hl hab
    simp only [List.flatten_cons] at hn ho hd ⊢
    simp only [List.all_cons, Bool.and_eq_true] at hs
    have hnb := isBox_tup d i
    have e1 := tupAt_eq d i
    have e2 := tupAt_eq d (i + 1)
    have e3 := tupAt_eq d (i + 1 + ts.length)
    have e4 := tupAt_eq d (i + (ts.length + 1))
    have hI2 := hI.setPart (i := tupAt d i) hnb (hab _ (Nat.le_refl _) (by omega)) (t := t) (ft := f) (htk 0 t f rfl rfl) (hn.sublist (List.sublist_append_left ..)) (fun b hb => ho b (by simp [hb])) (fun j b hb => hd j b (by simp [hb]))
    obtain ⟨g2, h1, h2⟩ := inv_putTup (d := d) ts fts _ _ (i + 1) hI2 hs.2 (by omega) (by omega) (by
        intro j hj1 hj2
        rw [get_set_ne _ _ (by omega)]
        exact hab j (by omega) (by omega)) (by
        intro k t' f' h1 h2
        have := htk (k + 1) t' f' (by simpa using h1) (by simpa using h2)
        rw [show i + 1 + k = i + (k + 1) from by omega]
        exact tok_solid (List.all_eq_true.1 hs.2 t' (List.mem_of_getElem? h1)) this)
      (hn.sublist (List.sublist_append_right ..)) (fun b hb => ho b (by simp [hb])) (by
        intro j b hb
        by_cases hj : j = tupAt d i
        · simp only [hj, if_true]
          intro hbf
          rw [List.nodup_append] at hn
          exact hn.2.2 b hbf b hb rfl
        · simp only [hj, if_false]; exact hd j b (by simp [hb]))
    refine ⟨g2, h1, fun j b hb => ?_⟩
    rcases h2 j b hb with h | h
    · by_cases hj : j = tupAt d i
      · simp only [hj, if_true] at h; exact .inr (by simp [h])
      · simp only [hj, if_false] at h; exact .inl h
    · exact .inr (by simp [h])
theorem Out.put {t : T} {s2 : St} {cv : Value} {w2 : World} (h : Out cx E w β s tm g t s2 cv w2) {dst : Option Nat} (hd : ∀ d, dst = some d → d < 5000 ∧ d < tm.size ∧ cx.pin.any (fun x => x.1 == d || x.2 == d) = false) :
    ∃ E2 β2 g2, Inv E2 w2 β2 (putDst s2 dst t) ((Act.mk tm []).put dst cv).tmps g2 ∧ Fr E w β g E2 w2 β2 g2 [] ∧ (PinOk cx w β s tm → PinOk cx w2 β2 (putDst s2 dst t) ((Act.mk tm []).put dst cv).tmps) := by
  obtain ⟨E2, β2, g2, fts, hI, hF, hR, hP⟩ := h
  cases dst with
  | none => exact ⟨E2, β2, g2, hI, hF.nil, hP⟩
  | some d =>
    obtain ⟨h1, h2, h3⟩ := hd d rfl
    obtain ⟨r1, r2, r3, r4⟩ := hR
    have hbox : ∀ (x : Slot) r, isBox r = true → ((s2.drop d).set d x).get r = s2.get r := by
      intro x r hr
      have := isBox_ge hr
      rw [get_set_ne _ _ (by omega), get_drop, if_neg (by omega)]
    by_cases htup : ∃ ts, t = .tup ts
    · obtain ⟨ts, rfl⟩ := htup
      simp only [] at r4
      obtain ⟨vs, rfl, q1, q2, q3, q4, q5⟩ := r4
      have hI2 := hI.setDst h1 h2 (t := .tup (ts.map fun _ => .one .dead)) (cv := .tuple vs) (ft := []) (by simp only [TOk]; exact ⟨trivial, vs, rfl, by simp [q1]⟩) (by simp) (by simp) (by simp)
      have hver : verNew s2 d = (s2.new d (.tup (ts.map fun _ => .one .dead))).2.2 := by simp only [verNew, St.new]; rfl
      have hcv : ∀ k, k < ts.length → cvOf (tm.setIfInBounds d (.tuple vs)) (tupAt d (0 + k)) = vs.getD k (.tuple #[]) := by
        intro k hk
        simp only [cvOf]
        rw [tupAt_eq, if_pos (by omega), show (30000 + 100 * d + (0 + k) - 30000) / 100 = d from by omega, show (30000 + 100 * d + (0 + k) - 30000) % 100 = k from by omega]
        have : (tm.setIfInBounds d (Value.tuple vs)).getD d (.tuple #[]) = .tuple vs := by simp [Array.getD, h2]
        rw [this]
      obtain ⟨g3, k1, k2⟩ := inv_putTup (d := d) ts fts _ _ 0 hI2 q4 (by omega) q2 (by
          intro j hj1 hj2
          rw [tupAt_eq] at hj1 hj2
          rw [get_set_ne _ _ (by omega), get_drop, if_pos (by omega)]) (by
          intro k t' f' e1 e2
          have hk := (List.getElem?_eq_some_iff.1 e1).1
          rw [hcv k hk]
          have hv : vs[k]? = some (vs.getD k (.tuple #[])) := by
            have : k < vs.size := by omega
            simp [Array.getD, this]
          exact tok_solid (List.all_eq_true.1 q4 t' (List.mem_of_getElem? e1)) (q5 k t' _ f' e1 hv e2)) r1 r2 (by
          intro j b hb
          by_cases hj : j = d
          · simp [hj]
          · simp only [hj, if_false]
            split
            · simp
            · exact r3 j b hb)
      refine ⟨E2, β2, g3, ?_, ?_, ?_⟩
      · simp only [putDst, Act.put]
        rw [← hver] at *
        exact k1
      · refine { hF.nil with sub := ?_ }
        intro i b hb
        rcases k2 i b hb with h | h
        · by_cases hj : i = d
          · simp [hj] at h
          · simp only [hj, if_false] at h
            split at h
            · simp at h
            · exact hF.sub i b h
        · exact hF.res b h
      · intro hp
        refine (hP hp).put h1 h3 ?_
        intro r hr
        have := isBox_ge hr
        simp only [putDst]
        rw [putTup_get d ts _ 0 r (by omega), if_neg (by have e1 : tupAt d 0 = 30000 + 100 * d + 0 := rfl; omega), hbox _ r hr]
    · have hR : ∃ f, fts = [f] ∧ TOk E2 w2 β2 s2 tm t cv f := by
        cases t <;> first | exact r4 | exact absurd ⟨_, rfl⟩ htup
      obtain ⟨f, rfl, hT⟩ := hR
      simp only [List.flatten_cons, List.flatten_nil, List.append_nil] at r1 r2 r3
      have hI2 := hI.setDst h1 h2 hT r1 r2 (fun i _ => r3 i)
      have hput : putDst s2 (some d) t = (s2.drop d).set d (t, verNew s2 d) := by
        cases t <;> first | rfl | exact absurd ⟨_, rfl⟩ htup
      refine ⟨E2, β2, (fun i => if i = d then f else if 30000 ≤ i ∧ (i - 30000) / 100 = d then [] else g2 i), ?_, ?_, ?_⟩
      · rw [hput]; exact hI2
      · refine { hF.nil with sub := ?_ }
        intro i b hb
        split at hb
        · exact hF.res b (by simpa using hb)
        · split at hb
          · simp at hb
          · exact hF.sub i b hb
      · intro hp
        exact (hP hp).put h1 h3 (by rw [hput]; exact hbox _)
end
end Pv

set_option linter.unusedVariables false
set_option linter.unusedSimpArgs false
namespace Pv
open Go
def isAggD : TypeDesc → Bool
  | .struct _ | .array _ _ => true
  | _ => false
section
variable {P : Program} (w : World)
theorem run_isAgg {t : TypeId} {d : TypeDesc} (h : P.underlying t = some d) : (isAgg t).run P w = .ok (isAggD d) w := by
  unfold isAgg
  rw [Sem.run_bind, run_underlying h]
  cases d <;> rfl
theorem run_size {t : TypeId} {i : TypeInfo} (h : P.info? t = some i) : (Go.sizeOf t).run P w = .ok i.size w := by simp [Go.sizeOf, typeInfo, h]
theorem run_info {t : TypeId} {i : TypeInfo} (h : P.info? t = some i) : (typeInfo t).run P w = .ok i w := by simp [typeInfo, h]
theorem run_zero {t : TypeId} {i : TypeInfo} {z : Value} (h : P.info? t = some i) (hz : i.zero = some z) : (zeroValue t).run P w = .ok z w := by simp [zeroValue, typeInfo, h, hz]
theorem run_load1 {t : TypeId} {d : TypeDesc} {b o : Nat} {v : Value} (h : P.underlying t = some d) (hd : isAggD d = false) (hc : w.cell? ⟨b, o, none⟩ = some v) :
    (loadVar t ⟨b, o, none⟩).run P w = .ok v w := by
  unfold loadVar
  rw [Sem.run_bind, run_isAgg w h, Result.andThen_ok, hd]
  simp [hc]
theorem run_loadN {t : TypeId} {d : TypeDesc} {i : TypeInfo} {b o : Nat} {cs : List Value} (h : P.underlying t = some d) (hd : isAggD d = true) (hi : P.info? t = some i) (hl : cs.length = i.size) (hc : RowAt w b o cs) :
    (loadVar t ⟨b, o, none⟩).run P w = .ok (.agg cs.toArray) w := by
  unfold loadVar
  rw [Sem.run_bind, run_isAgg w h, Result.andThen_ok, hd]
  simp only [if_true]
  rw [Sem.run_bind, run_size w hi, Result.andThen_ok]
  rw [Sem.run_bind, ← hl, run_loadCells_list w ⟨b, o, none⟩ cs (fun j v hj => by rw [add_spot rfl]; exact hc j v hj)]
  rfl
end
section
variable {E : Env} {w : World} {β : Nat → Option Nat} {s : St} {tm : Array Value} {g : Nat → List Nat}
theorem noOwn_fp : ∀ {v : V} {c : Value} {f : List Nat}, v.noOwn = true → Rep E w β v c f → f = []
  | .sc _, _, _, _, h => by simp only [Rep] at h; exact h.2.2
  | .sl l sz rows, c, f, hn, h => by
    simp only [Rep] at h
    obtain ⟨a, len, cap, cs, f', _, _, _, _, h5, _⟩ := h
    have hl : l ≠ .own := by simpa [V.noOwn] using hn
    cases a with
    | none => exact h5.2.2
    | some a =>
      simp only [SlOk] at h5
      rcases h5.2.2.2 with ⟨e, _⟩ | ⟨_, e, _⟩
      · exact absurd e hl
      · exact e
  | .ptr .., _, _, _, h => by simp only [Rep] at h; exact h.1
  | .clo .., _, _, _, h => by simp only [Rep] at h; exact h.1
  | .mref .., _, _, _, h => by simp only [Rep] at h; exact h.1
  | .mp .., _, _, h, _ => by simp [V.noOwn] at h
  | .dead, _, _, h, _ => by simp [V.noOwn] at h
theorem noOwns_fp : ∀ {v : List V} {c : List Value} {f : List Nat}, v.all V.noOwn = true → RepRow E w β v c f → f = []
  | [], _, _, _, h => by simp only [RepRow] at h; exact h.2
  | a :: r, _, _, hn, h => by
    simp only [RepRow] at h
    obtain ⟨c, cs', f1, f2, _, rfl, h1, h2⟩ := h
    simp only [List.all_cons, Bool.and_eq_true] at hn
    rw [noOwn_fp hn.1 h1, noOwns_fp hn.2 h2]; rfl
theorem stub_noOwn (v : V) : v.stub.noOwn = v.noOwn := by
  cases v <;> try rfl
  rename_i l sz rows
  cases l <;> rfl
theorem stub_id {v : V} (h : v.noOwn = true) : v.stub = v := by
  cases v <;> try rfl
  · rename_i l sz rows
    cases l <;> first | rfl | simp [V.noOwn] at h
theorem ala_tok {p : Pl} {r : List V} {cs : List Value} {f : List Nat} (hal : AlOk s p) (hr : RepRow E w β r cs f) (hp : ∀ k x, r[k]? = some x → x ≠ .dead → plVal w β tm (shift p k) = cs[k]?)
    (hc : ∀ k x, r[k]? = some x → s.cell (shift p k) = some x) {cv : Value} (hcv : cv = .agg cs.toArray) : TOk E w β s tm (alaOf r p) cv [] := by
  subst hcv
  unfold alaOf
  split
  · rename_i h
    have := noOwns_fp h hr
    subst this
    simp only [TOk]; exact ⟨_, rfl, by simpa using hr⟩
  · simp only [TOk]
    refine ⟨trivial, hal, cs.toArray, rfl, by simp [hr.len], ?_⟩
    intro j v c hj hcj
    simp only [List.getElem?_map, Option.map_eq_some_iff] at hj
    obtain ⟨v0, h1, rfl⟩ := hj
    rw [stub_noOwn]
    split
    · rename_i hn
      rw [stub_id hn]
      obtain ⟨c1, c', c2, f1, gq, f2, e1, e2, e3, e4, _, _⟩ := hr.at h1
      have : c = c' := by
        simp only [] at hcj
        rw [e1, ← e3] at hcj; simpa using hcj.symm
      subst this
      have := noOwn_fp hn e4
      subst this; exact e4
    · intro l sz rows h2
      have h3 := hc j v0 h1
      simp only [Pl.at] at h2 ⊢
      rw [h3] at h2
      obtain rfl := Option.some.inj h2
      rw [hp j _ h1 (by simp)]; exact hcj
theorem shift_shift0 (p : Pl) (k : Nat) (h : p.path = []) : shift p k = { p with off := p.off + k } := by
  obtain ⟨r, off, path, ver⟩ := p
  simp only at h; subst h; rfl
theorem addr_ok (hI : Inv E w β s tm g) {x : Operand} {X : O} {p : Pl} (ho : OpdOk x X) (ha : addrPl s X = some p) (hp : (s.place p).isSome) :
    ∃ b o, ev tm x = .pointer (some ⟨b, o, none⟩) ∧ plAddr w β tm p = some (b, o) ∧ AlOk s p ∧ (p.path = [] → isBox p.r = true) := by
  unfold addrPl at ha
  split at ha
  · rename_i r k h
    obtain rfl := Option.some.inj ha
    obtain ⟨fp, h1, _⟩ := opd_tok hI ho h
    simp only [TOk, Rep, RepP] at h1
    obtain ⟨_, b, hb, hv⟩ := h1
    have k0 := hI.box r b hb
    have k2 := k0.2
    have k1 : isBox r = true := by
      rcases k0.1 with h | ⟨_, ka, va, ks, vs, v, h⟩
      · exact h
      · obtain ⟨x, hx⟩ := Option.isSome_iff_exists.1 hp
        obtain ⟨t, row, q1, q2, _⟩ := place_some hx
        rw [h] at q1
        simp only [Option.some.injEq, Prod.mk.injEq] at q1
        rw [← q1.1] at q2; simp [T.row?] at q2
    refine ⟨b, k, hv, by simp [plAddr, k1, hb], ⟨(isBox_ge k1).2, ?_⟩, fun _ => k1⟩
    cases hg : s.get r with
    | none => rw [hg] at k2; simp at k2
    | some y => exact ⟨y.1, y.2, rfl, by simp [St.ver, hg]⟩
  · rename_i p' h
    obtain rfl := Option.some.inj ha
    obtain ⟨fp, h1, _⟩ := opd_tok hI ho h
    simp only [TOk] at h1
    obtain ⟨_, h2, h3, h4⟩ := h1
    obtain ⟨b, o, k1, k2⟩ := h4 hp
    exact ⟨b, o, k2, k1, h2, fun e => absurd e h3⟩
  · simp at ha
theorem addr_shift (hI : Inv E w β s tm g) {p : Pl} {x : List V × Nat} {b o : Nat} (h : s.place p = some x) (ha : plAddr w β tm p = some (b, o)) (k : Nat) : plAddr w β tm (shift p k) = some (b, o + k) := by
  by_cases hp : p.path = []
  · rw [shift_shift0 p k hp]
    simp only [plAddr, hp] at ha ⊢
    split at ha
    · rename_i hb
      rw [if_pos hb]
      cases hβ : β p.r with
      | none => rw [hβ] at ha; simp at ha
      | some b' => rw [hβ] at ha; simp only [Option.map_some, Option.some.injEq, Prod.mk.injEq] at ha ⊢; exact ⟨ha.1, by omega⟩
    · simp at ha
  · obtain ⟨cs, f, _, _, _, h4⟩ := hI.seg (o := x.2) (row' := x.1) h
    obtain ⟨b', base, _, h5, _⟩ := h4 hp
    have h0 := h5 0
    rw [shift_zero, ha] at h0
    simp only [Option.some.injEq, Prod.mk.injEq] at h0
    rw [h5 k]
    simp only [Option.some.injEq, Prod.mk.injEq]
    exact ⟨h0.1.symm, by omega⟩
theorem val_addr {p : Pl} {b o : Nat} (hm : p.path = [] → isBox p.r = true) (ha : plAddr w β tm p = some (b, o)) : plVal w β tm p = w.cell? ⟨b, o, none⟩ := by
  unfold plVal
  split
  · rename_i hp
    simp only [plAddr, hp] at ha
    have hb := hm hp
    rw [if_pos hb] at ha
    simp only [topVal, hb, if_true]
    cases hβ : β p.r with
    | none => rw [hβ] at ha; simp at ha
    | some b' =>
      rw [hβ] at ha; simp only [Option.map_some, Option.some.injEq, Prod.mk.injEq] at ha
      simp [ha.1, ha.2]
  · rw [ha]
theorem shift_path (p : Pl) (k : Nat) : (shift p k).path = [] ↔ p.path = [] := by
  obtain ⟨r, off, path, ver⟩ := p
  cases path with
  | nil => simp [shift]
  | cons a q =>
    simp only [shift]
    obtain ⟨st', q', e⟩ := shiftPath_cons a q k
    rw [e]; simp
theorem cells_place {p : Pl} {n : Nat} {q : List V} (h : s.cells p n = some q) : ∃ r o, s.place p = some (r, o) ∧ o + n ≤ r.length ∧ q = (r.drop o).take n := by
  simp only [St.cells] at h
  split at h
  · rename_i r o hr
    split at h
    · rename_i hl
      exact ⟨r, o, hr, hl, (Option.some.inj h).symm⟩
    · simp at h
  · simp at h
theorem cells_rep (hI : Inv E w β s tm g) {p : Pl} {n : Nat} {q : List V} (h : s.cells p n = some q) :
    ∃ cs f, RepRow E w β q cs f ∧ q.length = n ∧ (∀ b ∈ f, b ∈ g p.r) ∧ (∀ k x, q[k]? = some x → x ≠ .dead → plVal w β tm (shift p k) = cs[k]?) ∧ (∀ k x, q[k]? = some x → s.cell (shift p k) = some x) := by
  obtain ⟨r, o, h1, h2, rfl⟩ := cells_place h
  obtain ⟨cs, f, k1, k2, k3, _⟩ := hI.seg h1
  have e : r = r.take o ++ ((r.drop o).take n ++ (r.drop o).drop n) := by rw [List.take_append_drop, List.take_append_drop]
  rw [e] at k1
  obtain ⟨c1, d, f1, f2, rfl, rfl, m3, m4⟩ := k1.split
  obtain ⟨c2, c3, g2, g3, rfl, rfl, m5, m6⟩ := m4.split
  have hl1 : c1.length = o := by rw [m3.len, List.length_take]; omega
  have hl2 : c2.length = n := by rw [m5.len, List.length_take, List.length_drop]; omega
  have hget : ∀ k x, ((r.drop o).take n)[k]? = some x → r[o + k]? = some x ∧ k < n := by
    intro k x hk
    have hkn : k < n := by
      have := (List.getElem?_eq_some_iff.1 hk).1
      simp only [List.length_take] at this; omega
    rw [List.getElem?_take_of_lt hkn, List.getElem?_drop] at hk
    exact ⟨hk, hkn⟩
  refine ⟨c2, g2, m5, by simp; omega, fun b hb => k2 b (by simp [hb]), ?_, ?_⟩
  · intro k x hk hd
    obtain ⟨hk1, hkn⟩ := hget k x hk
    rw [k3 k x hk1 hd, List.getElem?_append_right (by omega), hl1, show o + k - o = k from by omega, List.getElem?_append_left (by omega)]
  · intro k x hk
    obtain ⟨hk1, hkn⟩ := hget k x hk
    simp only [St.cell, place_shift h1 k]
    exact hk1
end
end Pv

set_option linter.unusedVariables false
set_option linter.unusedSimpArgs false
namespace Pv
open Go
def Does (P : Program) (cx : Cx) (E : Env) (w : World) (β : Nat → Option Nat) (s : St) (tm : Array Value) (g : Nat → List Nat) (o : Oper) (t : T) (s2 : St) : Prop :=
  ∃ n cv w2, (execOp (ev tm) o).run P w = .ok n w2 ∧ (n = .value cv ∨ (n = .skip ∧ cv = undef)) ∧ Out cx E w β s tm g t s2 cv w2
section
variable {P : Program} {E : Env} {w : World} {β : Nat → Option Nat} {s : St} {tm : Array Value} {g : Nat → List Nat} {cx : Cx} {C : Orc}
theorem exec_v {o : Oper} {sm : Sem Value} {cv : Value} {w2 : World} (h : execOp (ev tm) o = (do pure (.value (← sm)))) (hr : sm.run P w = .ok cv w2) : (execOp (ev tm) o).run P w = .ok (.value cv) w2 := by
  rw [h, Sem.run_bind, hr]; rfl
theorem does_pure (hI : Inv E w β s tm g) {o : Oper} {t : T} {cv : Value} (hr : (execOp (ev tm) o).run P w = .ok (.value cv) w) (ht : ∀ ts, t ≠ .tup ts) (h : TOk E w β s tm t cv []) : Does P cx E w β s tm g o t s :=
  ⟨_, cv, w, hr, .inl rfl, Out.pure hI ht h⟩
theorem tok_sc {v : Value} (h : isSca v = true) : TOk E w β s tm (.one (.sc v)) v [] := by simp [TOk, Rep, h]
theorem al_tok (hI : Inv E w β s tm g) {p : Pl} {v : V} {t : T} {c : Value} (hal : AlOk s p) (hc : s.cell p = some v) (hp : v ≠ .dead → plVal w β tm p = some c) (hr : v.noOwn = true → ∃ f, Rep E w β v c f) (h : alOf v p = some t) : TOk E w β s tm t c [] := by
  have key : ∀ t', (if v.noOwn then T.one v else T.al p) = t' → TOk E w β s tm t' c [] := by
    intro t' e
    subst e
    split
    · rename_i hn
      obtain ⟨f, hf⟩ := hr hn
      have := noOwn_fp hn hf
      subst this; exact hf
    · simp only [TOk]
      refine ⟨trivial, hal, fun l sz rows h2 => ?_⟩
      rw [hc] at h2
      obtain rfl := Option.some.inj h2
      exact hp (by simp)
  unfold alOf at h
  split at h
  · simp at h
  · exact key _ (Option.some.inj h)
theorem q_move_one (hI : Inv E w β s tm g) {o : Oper} {i : Nat} {v : V} (hop : o.op = .move (.tmp i)) (hi : i < 5000) (h : s.opv (.t i) = some (.one v)) :
    Does P cx E w β s tm g o (if v.noOwn then .one v else .al (Pl.ofTmp s i)) s := by
  obtain ⟨fp, h1, _⟩ := opd_tok hI (x := .tmp i) (X := .t i) ⟨rfl, hi⟩ h
  simp only [TOk] at h1
  simp only [St.opv] at h
  split at h
  case h_2 => simp at h
  rename_i y hy
  obtain ⟨t0, n0⟩ := y
  simp only [Option.some.injEq] at h; subst h
  refine does_pure hI (cv := ev tm (.tmp i)) (by simp [execOp, hop]) (by split <;> simp) ?_
  split
  · rename_i hn
    have := noOwn_fp hn h1
    subst this; exact h1
  · simp only [TOk]
    refine ⟨trivial, alOk_tmp hi hy, fun l sz rows h2 => ?_⟩
    rw [cell_tmp hy] at h2
    obtain rfl := Option.some.inj h2
    obtain ⟨a, cap, cs, f', e, _⟩ := h1.lies
    exact plVal_tmp hi (by rw [cvOf_low hi]; rfl) (by rw [e]; simp)
theorem cell_row {i j : Nat} {r : List V} {n : Nat} {v : V} (h : s.get i = some (.agg r, n)) (hj : r[j]? = some v) : s.cell (shift (Pl.ofTmp s i) j) = some v := by
  simp [St.cell, St.place, Pl.ofTmp, shift, St.ver, h, T.row?, getRow, hj]
theorem q_move_agg (hI : Inv E w β s tm g) {o : Oper} {i : Nat} {r : List V} (hop : o.op = .move (.tmp i)) (hi : i < 5000) (h : s.opv (.t i) = some (.agg r)) :
    Does P cx E w β s tm g o (alaOf r (Pl.ofTmp s i)) s := by
  obtain ⟨fp, h1, _⟩ := opd_tok hI (x := .tmp i) (X := .t i) ⟨rfl, hi⟩ h
  simp only [TOk] at h1
  obtain ⟨cs, hcs, hr⟩ := h1
  simp only [St.opv] at h
  split at h
  case h_2 => simp at h
  rename_i y hy
  obtain ⟨t0, n0⟩ := y
  simp only [Option.some.injEq] at h; subst h
  refine does_pure hI (cv := ev tm (.tmp i)) (by simp [execOp, hop]) (by unfold alaOf; split <;> simp) ?_
  refine ala_tok (alOk_tmp hi hy) hr ?_ (fun k x hk => cell_row hy hk) (by rw [hcs])
  intro k x hk _
  have hcv : cvOf tm i = .agg cs := by rw [cvOf_low hi]; exact hcs
  simp [plVal, Pl.ofTmp, shift, topVal, isBox_low hi, hcv]
def T.free : T → Bool
  | .one _ => false
  | .agg _ => false
  | .tup _ => false
  | .mp .. => false
  | _ => true
theorem free_fp {t : T} {c : Value} {f : List Nat} (h : t.free = true) (k : TOk E w β s tm t c f) : f = [] := by
  cases t <;> simp only [T.free, Bool.false_eq_true] at h <;> exact k.1
theorem q_move_free (hI : Inv E w β s tm g) {o : Oper} {x : Operand} {X : O} {t : T} (hop : o.op = .move x ∨ o.op = .assign x) (ho : OpdOk x X) (h : s.opv X = some t) (hf : t.free = true ∨ ((∃ y, X = .c y) ∧ ∀ ts, t ≠ .tup ts)) :
    Does P cx E w β s tm g o t s := by
  obtain ⟨fp, h1, h2⟩ := opd_tok hI ho h
  refine does_pure hI (cv := ev tm x) (by rcases hop with h | h <;> simp [execOp, h]) ?_ ?_
  · rcases hf with hf | hf
    · intro ts e; subst e; simp [T.free] at hf
    · exact hf.2
  · rcases hf with hf | ⟨⟨y, e⟩, _⟩
    · have := free_fp hf h1
      subst this; exact h1
    · rcases h2 with ⟨i, e2, _⟩ | ⟨_, e2⟩
      · rw [e] at e2; simp at e2
      · subst e2; exact h1
theorem isSca_bool (b : Bool) : isSca (.bool b) = true := rfl
theorem q_pick (hI : Inv E w β s tm g) {o : Oper} {c x y : Operand} {C X Y : O} {b : Bool} {v : Value} (hop : o.op = .pick c x y) (hc : OpdOk c C) (hx : OpdOk x X) (hy : OpdOk y Y)
    (h1 : s.sc C = some (.bool b)) (h2 : s.sc (if b then X else Y) = some v) : Does P cx E w β s tm g o (.one (.sc v)) s := by
  obtain ⟨e1, _⟩ := opd_sc hI hc h1
  have h3 : (if b then ev tm x else ev tm y) = v ∧ isSca v = true := by
    cases b
    · exact opd_sc hI hy h2
    · exact opd_sc hI hx h2
  refine does_pure hI (cv := v) ?_ (by simp) (tok_sc h3.2)
  simp [execOp, hop, e1, asBool, h3.1]
theorem isSca_bin {op : BinOp} {a b v : Value} (h : binV op a b = some v) : isSca v = true := by
  unfold binV at h
  repeat' split at h
  all_goals first | (obtain rfl := Option.some.inj h; rfl) | simp at h
theorem run_binV {op : BinOp} {a b v : Value} (t : TypeId) (h : binV op a b = some v) : (binOp op t a b).run P w = .ok v w := by
  unfold binV at h
  split at h
  · rename_i k x k' y
    cases op <;> simp only [] at h <;> try (simp at h; done)
    case shl => split at h <;> first | simp at h; done | (obtain rfl := Option.some.inj h; rename_i hb; simp [binOp, Op.shift, hb])
    case shr => split at h <;> first | simp at h; done | (obtain rfl := Option.some.inj h; rename_i hb; simp [binOp, Op.shift, hb])
    all_goals
      split at h <;> first
        | simp at h; done
        | (rename_i hk; obtain rfl := Option.some.inj h; subst hk; simp [binOp, Op.intArith, Op.intBits, Op.intCmp]; done)
        | (rename_i hk; obtain rfl := Option.some.inj h; obtain ⟨hk, hz⟩ := hk; subst hk; simp [binOp, Op.intDiv, hz])
  · cases op <;> simp only [] at h <;> try (simp at h; done)
    all_goals (obtain rfl := Option.some.inj h; simp [binOp, Op.stringOp])
  · simp at h
theorem run_eqGuard {op : BinOp} {t : TypeId} {x y : Operand} {a b : Value} (h1 : isSca a = true) (h2 : a ≠ .nilIface) : (eqGuard op t x y a b).run P w = .ok () w := by
  have key : ∀ (c : Bool) (k : Sem Unit), k.run P w = .ok () w → (if c = true then (pure () : Sem Unit) else k).run P w = .ok () w := by
    intro c k hk; cases c
    · exact hk
    · rfl
  unfold eqGuard
  refine key _ _ ?_
  cases a <;> first | (simp [isSca] at h1; done) | exact absurd rfl h2 | (cases b <;> rfl)
theorem binV_not {op : BinOp} {a b v : Value} (h : binV op a b = some v) : a ≠ .nilIface := by
  intro e; subst e; simp [binV] at h
theorem q_bin (hI : Inv E w β s tm g) {o : Oper} {op : BinOp} {ty ty2 : TypeId} {x y : Operand} {X Y : O} {a b v : Value} (hop : o.op = .binOp op ty x y ty2) (hx : OpdOk x X) (hy : OpdOk y Y)
    (h1 : s.sc X = some a) (h2 : s.sc Y = some b) (h3 : binV op a b = some v) : Does P cx E w β s tm g o (.one (.sc v)) s := by
  obtain ⟨e1, k1⟩ := opd_sc hI hx h1
  obtain ⟨e2, k2⟩ := opd_sc hI hy h2
  refine does_pure hI (cv := v) ?_ (by simp) (tok_sc (isSca_bin h3))
  refine exec_v (sm := do eqGuard op ty x y (ev tm x) (ev tm y); binOp op ty (ev tm x) (ev tm y)) (by simp only [execOp, hop]) ?_
  rw [e1, e2, Sem.run_bind, run_eqGuard k1 (binV_not h3), Result.andThen_ok, run_binV ty h3]
theorem q_binB (hI : Inv E w β s tm g) {o : Oper} {neg : Bool} {ty ty2 : TypeId} {x y : Operand} {X Y : O} {a b : Bool} (hop : o.op = .binOp (if neg then .neq else .eql) ty x y ty2) (hty : P.underlying ty = some .bool) (hx : OpdOk x X) (hy : OpdOk y Y)
    (h1 : s.sc X = some (.bool a)) (h2 : s.sc Y = some (.bool b)) : Does P cx E w β s tm g o (.one (.sc (.bool (if neg then !(a == b) else a == b)))) s := by
  obtain ⟨e1, k1⟩ := opd_sc hI hx h1
  obtain ⟨e2, k2⟩ := opd_sc hI hy h2
  refine does_pure hI (cv := .bool (if neg then !(a == b) else a == b)) ?_ (by simp) (tok_sc rfl)
  refine exec_v (sm := do eqGuard (if neg then .neq else .eql) ty x y (ev tm x) (ev tm y); binOp (if neg then .neq else .eql) ty (ev tm x) (ev tm y)) (by simp only [execOp, hop]) ?_
  rw [e1, e2, Sem.run_bind, run_eqGuard k1 (by simp), Result.andThen_ok]
  have h : (Op.equal ty (.bool a) (.bool b)).run P w = .ok (a == b) w := by
    unfold Op.equal
    rw [show Op.maxDepth = 9999 + 1 from rfl, Op.equalIn, Sem.run_bind, run_underlying hty]
    rfl
  cases neg
  · show (do pure (Value.bool (← Op.equal ty (.bool a) (.bool b))) : Sem Value).run P w = _
    rw [Sem.run_bind, h]; rfl
  · show (do pure (Value.bool (!(← Op.equal ty (.bool a) (.bool b)))) : Sem Value).run P w = _
    rw [Sem.run_bind, h]; rfl
theorem q_un (hI : Inv E w β s tm g) {o : Oper} {op : UnOp} {ty : TypeId} {x : Operand} {X : O} {a v : Value} (hop : o.op = .unOp op ty x) (hx : OpdOk x X)
    (h1 : s.sc X = some a) (h3 : unV op a = some v) : Does P cx E w β s tm g o (.one (.sc v)) s := by
  obtain ⟨e1, k1⟩ := opd_sc hI hx h1
  have hv : isSca v = true := by
    unfold unV at h3
    repeat' split at h3
    all_goals first | (obtain rfl := Option.some.inj h3; rfl) | simp at h3
  refine does_pure hI (cv := v) ?_ (by simp) (tok_sc hv)
  refine exec_v (sm := Op.unary op (ev tm x)) (by simp only [execOp, hop]) ?_
  rw [e1]
  unfold unV at h3
  split at h3
  · cases op <;> simp only [] at h3 <;> first | (simp at h3; done) | (obtain rfl := Option.some.inj h3; simp [Op.unary])
  · cases op <;> simp only [] at h3 <;> first | (simp at h3; done) | (obtain rfl := Option.some.inj h3; simp [Op.unary, Op.intArith])
  · simp at h3
theorem q_conv (hI : Inv E w β s tm g) {o : Oper} {src dst : TypeId} {d1 : TypeDesc} {k k0 : IntKind} {n : Int} {x : Operand} {X : O} (hop : o.op = .convert src dst x) (h1 : P.underlying src = some d1) (h2 : P.underlying dst = some (.int k)) (hx : OpdOk x X)
    (h : s.sc X = some (.int k0 n)) : Does P cx E w β s tm g o (.one (.sc (.int k (k.wrap n)))) s := by
  obtain ⟨e1, k1⟩ := opd_sc hI hx h
  refine does_pure hI (cv := .int k (k.wrap n)) ?_ (by simp) (tok_sc rfl)
  refine exec_v (sm := convert src dst (ev tm x)) (by simp only [execOp, hop]) ?_
  rw [e1]
  unfold convert
  rw [Sem.run_bind, run_underlying h1, Result.andThen_ok, Sem.run_bind, run_underlying h2, Result.andThen_ok]
  cases d1 <;> simp [Conv.intToInt]
end
end Pv

set_option linter.unusedVariables false
set_option linter.unusedSimpArgs false
namespace Pv
open Go
theorem getRow_unshift : ∀ (q : List (Nat × Nat × Nat)) (st : Nat × Nat × Nat) (row : List V) (off k : Nat) (x : List V × Nat),
    getRow row off (shiftPath (st :: q) k) = some x → ∃ o, getRow row off (st :: q) = some (x.1, o) ∧ x.2 = o + k
  | [], (i, sz, o1), row, off, k, x, h => by
    simp only [shiftPath, getRow] at h ⊢
    split at h
    · split at h
      · rename_i hsz
        split at h
        · obtain rfl := Option.some.inj h
          simp only [*, if_true]
          exact ⟨o1, rfl, rfl⟩
        · simp at h
      · simp at h
    · simp at h
  | st2 :: q, (i, sz, o1), row, off, k, x, h => by
    simp only [shiftPath] at h
    unfold getRow at h ⊢
    split at h
    · split at h
      · rename_i hsz
        split at h
        · simp only [hsz, if_true]; exact getRow_unshift q st2 _ _ k _ h
        · simp at h
      · simp at h
    · simp at h
theorem place_unshift {s : St} {p : Pl} {k : Nat} (h : (s.place (shift p k)).isSome) : (s.place p).isSome := by
  cases hx : s.place (shift p k) with
  | none => rw [hx] at h; simp at h
  | some x =>
    obtain ⟨t, row, h1, h2, h3⟩ := place_some hx
    rw [(shift_r p k).1, (shift_r p k).2] at h1
    obtain ⟨r, off, path, ver⟩ := p
    cases path with
    | nil => rw [place_mk h1 h2 (x := (row, off)) rfl]; rfl
    | cons st q =>
      simp only [shift] at h3
      obtain ⟨o, h4, _⟩ := getRow_unshift q st row _ k x h3
      rw [place_mk h1 h2 h4]; rfl
theorem follow_snoc {w : World} : ∀ (q : List (Nat × Nat × Nat)) (st st2 : Nat × Nat × Nat) (v : Value), follow w v (st :: q ++ [st2]) =
    (follow w v (st :: q)).bind fun x => (w.cell? ⟨x.1, x.2, none⟩).bind fun v' => stepA v' st2
  | [], st, st2, v => by
    simp only [List.cons_append, List.nil_append, follow]
    cases stepA v st with
    | none => rfl
    | some x =>
      simp only [Option.bind]
      cases w.cell? ⟨x.1, x.2, none⟩ <;> rfl
  | st3 :: q, st, st2, v => by
    have := follow_snoc (w := w) q st3 st2
    simp only [List.cons_append] at this ⊢
    simp only [follow]
    cases stepA v st with
    | none => rfl
    | some x =>
      simp only []
      cases w.cell? ⟨x.1, x.2, none⟩ with
      | none => rfl
      | some v' => simp only []; rw [this v']
section
variable {P : Program} {E : Env} {w : World} {β : Nat → Option Nat} {s : St} {tm : Array Value} {g : Nat → List Nat} {cx : Cx} {C : Orc}
theorem plAddr_snoc {p : Pl} {v : Value} {st : Nat × Nat × Nat} (h : plVal w β tm p = some v) : plAddr w β tm { p with path := p.path ++ [st] } = stepA v st := by
  obtain ⟨r, off, path, ver⟩ := p
  cases path with
  | nil =>
    simp only [plVal] at h
    simp only [plAddr, List.nil_append]
    rw [h]; rfl
  | cons st0 q =>
    simp only [plVal, plAddr] at h
    simp only [plAddr, List.cons_append]
    cases ht : topVal w β tm r off with
    | none => rw [ht] at h; simp at h
    | some v0 =>
      rw [ht] at h
      simp only [] at h ⊢
      rw [← List.cons_append, follow_snoc]
      cases hf : follow w v0 (st0 :: q) with
      | none => rw [hf] at h; simp at h
      | some x =>
        rw [hf] at h
        simp only [] at h
        simp only [Option.bind, h]
theorem run_fieldAt {sT : TypeId} {fs : Array Field} {i : Nat} {f : Field} {fi : TypeInfo} {b o : Nat} (h1 : P.underlying sT = some (.struct fs)) (h2 : fs[i]? = some f) (h3 : P.info? f.type = some fi) (h4 : fi.size ≠ 0) :
    (Instr.fieldAt sT (.pointer (some ⟨b, o, none⟩)) i).run P w = .ok (.pointer (some ⟨b, o + f.offset, none⟩)) w := by
  unfold Instr.fieldAt
  rw [Sem.run_bind, run_underlying h1]
  simp only [Result.andThen_ok]
  rw [h2]
  simp [Instr.sureAddr, fieldPlace, run_size w h3, h4, add_spot]
theorem ad_shift (hI : Inv E w β s tm g) {p : Pl} {c : Value} {b o k : Nat} (h : TOk E w β s tm (.ad p) c []) (hp : (s.place p).isSome) (hc : c = .pointer (some ⟨b, o, none⟩)) : TOk E w β s tm (.ad (shift p k)) (.pointer (some ⟨b, o + k, none⟩)) [] := by
  simp only [TOk] at h ⊢
  obtain ⟨_, h2, h3, h4⟩ := h
  obtain ⟨b', o', k1, k2⟩ := h4 hp
  rw [hc] at k2
  simp only [Value.pointer.injEq, Option.some.injEq, Addr.mk.injEq, and_true] at k2
  obtain ⟨rfl, rfl⟩ := k2
  refine ⟨trivial, h2.shift k, fun e => h3 ((shift_path p k).1 e), fun _ => ?_⟩
  cases hx : s.place p with
  | none => rw [hx] at hp; simp at hp
  | some x => exact ⟨b, o + k, addr_shift hI hx k1 k, rfl⟩
theorem q_fld (hI : Inv E w β s tm g) {o : Oper} {sT : TypeId} {fs : Array Field} {i : Nat} {f : Field} {fi : TypeInfo} {x : Operand} {X : O} {t : T} {M : List (Nat × Nat)} {s2 : St} (hop : o.op = .fieldAddr sT x i)
    (h1 : P.underlying sT = some (.struct fs)) (h2 : fs[i]? = some f) (h3 : P.info? f.type = some fi) (h4 : fi.size ≠ 0) (hx : OpdOk x X) (hev : evIns C cx s (.fld f.offset) [X] = some (t, s2, M)) : s2 = s ∧ Does P cx E w β s tm g o t s := by
  simp only [evIns] at hev
  have key : ∀ b k, ev tm x = .pointer (some ⟨b, k, none⟩) → (execOp (ev tm) o).run P w = .ok (.value (.pointer (some ⟨b, k + f.offset, none⟩))) w := by
    intro b k e
    exact exec_v (sm := Instr.fieldAt sT (ev tm x) i) (by simp only [execOp, hop]) (by rw [e]; exact run_fieldAt h1 h2 h3 h4)
  split at hev
  · rename_i r k h
    simp only [Option.some.injEq, Prod.mk.injEq] at hev
    obtain ⟨rfl, rfl, rfl⟩ := hev
    obtain ⟨fp, k1, _⟩ := opd_tok hI hx h
    simp only [TOk, Rep, RepP] at k1
    obtain ⟨_, b, hb, hv⟩ := k1
    exact ⟨rfl, does_pure hI (key b k hv) (by simp) (by simp [TOk, Rep, RepP, hb])⟩
  · rename_i p h
    split at hev
    case isFalse => simp at hev
    rename_i hp
    simp only [Option.some.injEq, Prod.mk.injEq] at hev
    obtain ⟨rfl, rfl, rfl⟩ := hev
    obtain ⟨fp, k1, _⟩ := opd_tok hI hx h
    have := free_fp (t := .ad p) rfl k1
    subst this
    have k2 := k1
    simp only [TOk] at k2
    obtain ⟨b, k, _, hv⟩ := k2.2.2.2 hp
    exact ⟨rfl, does_pure hI (key b k hv) (by simp) (ad_shift hI k1 hp hv)⟩
  · rename_i r k h
    simp only [Option.some.injEq, Prod.mk.injEq] at hev
    obtain ⟨rfl, rfl, rfl⟩ := hev
    obtain ⟨fp, k1, _⟩ := opd_tok hI hx h
    simp only [TOk] at k1
    obtain ⟨_, b, o0, cs, hv, hr⟩ := k1
    refine ⟨rfl, does_pure hI (key b (o0 + k) hv) (by simp) ?_⟩
    simp only [TOk]
    exact ⟨trivial, b, o0, cs, by rw [Nat.add_assoc], hr⟩
  · simp at hev
theorem run_indexArr {tT e : TypeId} {len : Nat} {ei : TypeInfo} {k : IntKind} {n : Int} {b o : Nat} (h1 : P.underlying tT = some (.array len e)) (h2 : P.info? e = some ei) (hn : 0 ≤ n ∧ n < len) :
    (Instr.indexAt tT (.pointer (some ⟨b, o, none⟩)) (.int k n)).run P w = .ok (.pointer (some ⟨b, o + n.toNat * ei.size, none⟩)) w := by
  unfold Instr.indexAt
  simp [asIntOf, run_underlying h1, Instr.sureAddr, hn, run_size w h2, add_spot]
theorem run_indexSl {tT e : TypeId} {len cap : Nat} {ei : TypeInfo} {k : IntKind} {n : Int} {a : Addr} (h1 : P.underlying tT = some (.slice e)) (h2 : P.info? e = some ei) (hn : 0 ≤ n ∧ n < len) :
    (Instr.indexAt tT (.slice (some a) len cap) (.int k n)).run P w = .ok (.pointer (some (a.add (n.toNat * ei.size)))) w := by
  unfold Instr.indexAt
  simp [asIntOf, run_underlying h1, hn, run_size w h2]
theorem q_idarr (hI : Inv E w β s tm g) {o : Oper} {tT e : TypeId} {len : Nat} {ei : TypeInfo} {x y : Operand} {X Y : O} {t : T} {M : List (Nat × Nat)} {s2 : St} (hop : o.op = .indexAddr tT x y)
    (h1 : P.underlying tT = some (.array len e)) (h2 : P.info? e = some ei) (hx : OpdOk x X) (hy : OpdOk y Y) (hev : evIns C cx s (.idarr len ei.size) [X, Y] = some (t, s2, M)) : s2 = s ∧ Does P cx E w β s tm g o t s := by
  simp only [evIns] at hev
  split at hev
  case h_2 => simp at hev
  rename_i n t0 hn ht
  split at hev
  case isFalse => simp at hev
  rename_i hr
  obtain ⟨k0, hk⟩ := opd_int hI hy hn
  have key : ∀ b k, ev tm x = .pointer (some ⟨b, k, none⟩) → (execOp (ev tm) o).run P w = .ok (.value (.pointer (some ⟨b, k + n.toNat * ei.size, none⟩))) w := by
    intro b k e
    exact exec_v (sm := Instr.indexAt tT (ev tm x) (ev tm y)) (by simp only [execOp, hop]) (by rw [e, hk]; exact run_indexArr h1 h2 hr)
  split at hev
  · rename_i r k
    simp only [Option.some.injEq, Prod.mk.injEq] at hev
    obtain ⟨rfl, rfl, rfl⟩ := hev
    obtain ⟨fp, k1, _⟩ := opd_tok hI hx ht
    simp only [TOk, Rep, RepP] at k1
    obtain ⟨_, b, hb, hv⟩ := k1
    exact ⟨rfl, does_pure hI (key b k hv) (by simp) (by simp [TOk, Rep, RepP, hb])⟩
  · rename_i p
    split at hev
    case isFalse => simp at hev
    rename_i hp
    simp only [Option.some.injEq, Prod.mk.injEq] at hev
    obtain ⟨rfl, rfl, rfl⟩ := hev
    obtain ⟨fp, k1, _⟩ := opd_tok hI hx ht
    have := free_fp (t := .ad p) rfl k1
    subst this
    have k2 := k1
    simp only [TOk] at k2
    obtain ⟨b, k, _, hv⟩ := k2.2.2.2 hp
    exact ⟨rfl, does_pure hI (key b k hv) (by simp) (ad_shift hI k1 hp hv)⟩
  · rename_i r k
    simp only [Option.some.injEq, Prod.mk.injEq] at hev
    obtain ⟨rfl, rfl, rfl⟩ := hev
    obtain ⟨fp, k1, _⟩ := opd_tok hI hx ht
    simp only [TOk] at k1
    obtain ⟨_, b, o0, cs, hv, hr⟩ := k1
    refine ⟨rfl, does_pure hI (key b (o0 + k) hv) (by simp) ?_⟩
    simp only [TOk]
    exact ⟨trivial, b, o0, cs, by rw [Nat.add_assoc], hr⟩
  · simp at hev
theorem q_ida (hI : Inv E w β s tm g) {o : Oper} {tT e : TypeId} {ei : TypeInfo} {x y : Operand} {X Y : O} {t : T} {M : List (Nat × Nat)} {s2 : St} (hop : o.op = .indexAddr tT x y)
    (h1 : P.underlying tT = some (.slice e)) (h2 : P.info? e = some ei) (hx : OpdOk x X) (hy : OpdOk y Y) (hev : evIns C cx s (.ida ei.size) [X, Y] = some (t, s2, M)) : s2 = s ∧ Does P cx E w β s tm g o t s := by
  simp only [evIns] at hev
  split at hev
  case h_2 => simp at hev
  rename_i n sv hn hsv
  split at hev
  case isFalse => simp at hev
  rename_i hr
  obtain ⟨hsz, h0, hlt⟩ := hr
  obtain ⟨k0, hk⟩ := opd_int hI hy hn
  obtain ⟨hsays, hplace⟩ := slice_ok hI hx hsv
  obtain ⟨a, cap, cs, f, hc, hcap, hl, hno⟩ := hsays
  have hne : sv.rows ≠ [] := by intro e; rw [e] at hlt; simp at hlt; omega
  cases a with
  | none => exact absurd (hl.nil rfl).1 hne
  | some ad =>
    obtain ⟨hsp, hat, hblk⟩ := hl.at' ad rfl
    have key : (execOp (ev tm) o).run P w = .ok (.value (.pointer (some ⟨ad.block, ad.off + n.toNat * ei.size, none⟩))) w := by
      refine exec_v (sm := Instr.indexAt tT (ev tm x) (ev tm y)) (by simp only [execOp, hop]) ?_
      rw [hc, hk, run_indexSl h1 h2 ⟨h0, hlt⟩, add_spot hsp]
    have hnl : n.toNat < sv.rows.length := by omega
    split at hev
    · rename_i p lo cp hp
      simp only [Option.some.injEq, Prod.mk.injEq] at hev
      obtain ⟨rfl, rfl, rfl⟩ := hev
      obtain ⟨R, a0, cap0, fR, q1, q2, q3, q4, q5, q6, q7, q8⟩ := hplace p lo cp hp
      refine ⟨rfl, does_pure hI key (by simp) ?_⟩
      simp only [TOk]
      refine ⟨trivial, q5, by simp, fun _ => ⟨ad.block, ad.off + n.toNat * ei.size, ?_, rfl⟩⟩
      rw [plAddr_snoc q2]
      rw [hc] at q8
      simp only [cutVal, Value.slice.injEq] at q8
      obtain ⟨e1, _, e3⟩ := q8
      obtain ⟨_, _, hcap0, hR⟩ : True ∧ True ∧ R.length ≤ cap0 ∧ True := by
        obtain ⟨a', cap', cs', f', e, hle, _⟩ := q3.lies
        simp only [Value.slice.injEq] at e
        exact ⟨trivial, trivial, by rw [e.2.2]; exact hle, trivial⟩
      have hm : ¬ (if cp then lo + sv.rows.length else cap0) = lo := by
        cases cp
        · simp only [Bool.false_eq_true, if_false]; omega
        · simp only [if_true]; omega
      rw [if_neg hm] at e1
      cases a0 with
      | none => simp at e1
      | some a0 =>
        simp only [Option.map_some, Option.some.injEq] at e1
        have hs0 : a0.spot = none := by
          obtain ⟨a', cap', cs', f', e, _, hl', _⟩ := q3.lies
          simp only [Value.slice.injEq] at e
          exact (hl'.at' a0 e.1.symm).1
        rw [add_spot hs0] at e1
        subst e1
        simp only [stepA, hsz, Option.some.injEq, Prod.mk.injEq, true_and]
        rw [Nat.add_mul]; omega
    · rename_i hp
      split at hev
      case h_2 => simp at hev
      rename_i r hri
      simp only [Option.some.injEq, Prod.mk.injEq] at hev
      obtain ⟨rfl, rfl, rfl⟩ := hev
      rcases hno hp with ⟨hh, _⟩ | ⟨hf, hlab, ad', e', hlo⟩
      · simp at hh
      simp only [Option.some.injEq] at e'
      subst e'; subst hf
      obtain ⟨c1, c, c2, f1, gq, f2, e1, e2, e3, e4, e5, e6, _, _⟩ := hl.rep.at hri
      have hgq : gq = [] := by
        have := congrArg List.length e2
        simp only [List.length_nil, List.length_append] at this
        exact List.length_eq_zero_iff.1 (by omega)
      subst hgq
      refine ⟨rfl, does_pure hI key (by simp) ?_⟩
      simp only [TOk]
      refine ⟨trivial, ad.block, ad.off + n.toNat * ei.size, c, rfl, ?_, e6, hblk, labOk_rad hlo, e5⟩
      rw [e1, RowAt.append, RowAt.append] at hat
      have := hat.1.2
      rwa [e3, ← hsz] at this
end
end Pv

set_option linter.unusedVariables false
set_option linter.unusedSimpArgs false
namespace Pv
open Go
section
variable {P : Program} {E : Env} {w : World} {β : Nat → Option Nat} {s : St} {tm : Array Value} {g : Nat → List Nat} {cx : Cx} {C : Orc}
theorem seg_mem (hI : Inv E w β s tm g) {p : Pl} {row' : List V} {o b k : Nat} (h : s.place p = some (row', o)) (ha : plAddr w β tm p = some (b, k)) (hm : p.path = [] → isBox p.r = true) :
    ∃ cs f base, RepRow E w β row' cs f ∧ (∀ x ∈ f, x ∈ g p.r) ∧ (∀ k x, row'[o + k]? = some x → x ≠ .dead → plVal w β tm (shift p k) = cs[o + k]?) ∧ RowAt w b base cs ∧ k = base + o ∧ Clean w b (base + cs.length) := by
  by_cases hp : p.path = []
  · obtain ⟨t, row, h1, h2, h3⟩ := place_some h
    obtain ⟨cs, f, k1, k2, k3⟩ := hI.row h1 h2
    have hb := hm hp
    rw [hp] at h3
    simp only [getRow, Option.some.injEq, Prod.mk.injEq] at h3
    obtain ⟨rfl, rfl⟩ := h3
    rcases k3 with ⟨_, b', q1, q2, q3, q4, q5, q6⟩ | ⟨hb', _⟩
    · simp only [plAddr, hp, hb, if_true, q1, Option.map_some, Option.some.injEq, Prod.mk.injEq] at ha
      obtain ⟨rfl, rfl⟩ := ha
      refine ⟨cs, f, 0, k1, fun x hx => by rw [q3]; exact List.mem_cons_of_mem _ hx, ?_, q4, by omega, by simpa using q5⟩
      intro j x hj hd
      rw [shift_shift0 p j hp]
      simp only [plVal, hp]
      exact k2 _ _ hj hd
    · rw [hb] at hb'; simp at hb'
  · obtain ⟨cs, f, h1, h2, h3, h4⟩ := hI.seg h
    obtain ⟨b', base, q1, q2, q3, q4, _⟩ := h4 hp
    have := q2 0
    rw [shift_zero, ha] at this
    simp only [Option.some.injEq, Prod.mk.injEq] at this
    obtain ⟨rfl, rfl⟩ := this
    exact ⟨cs, f, base, h1, h2, h3, q3, by omega, q4⟩
theorem cells_mem (hI : Inv E w β s tm g) {p : Pl} {n b k : Nat} {q : List V} (h : s.cells p n = some q) (ha : plAddr w β tm p = some (b, k)) (hm : p.path = [] → isBox p.r = true) :
    ∃ cs f, RepRow E w β q cs f ∧ q.length = n ∧ RowAt w b k cs ∧ (∀ b ∈ f, b ∈ g p.r) ∧ (∀ k x, q[k]? = some x → x ≠ .dead → plVal w β tm (shift p k) = cs[k]?) ∧ (∀ k x, q[k]? = some x → s.cell (shift p k) = some x) := by
  obtain ⟨r, o, h1, h2, rfl⟩ := cells_place h
  obtain ⟨cs, f, base, k1, k2, k3, k4, rfl, _⟩ := seg_mem hI h1 ha hm
  have e : r = r.take o ++ ((r.drop o).take n ++ (r.drop o).drop n) := by rw [List.take_append_drop, List.take_append_drop]
  rw [e] at k1
  obtain ⟨c1, d, f1, f2, rfl, rfl, m3, m4⟩ := k1.split
  obtain ⟨c2, c3, g2, g3, rfl, rfl, m5, m6⟩ := m4.split
  have hl1 : c1.length = o := by rw [m3.len, List.length_take]; omega
  have hl2 : c2.length = n := by rw [m5.len, List.length_take, List.length_drop]; omega
  have hget : ∀ k x, ((r.drop o).take n)[k]? = some x → r[o + k]? = some x ∧ k < n := by
    intro k x hk
    have hkn : k < n := by
      have := (List.getElem?_eq_some_iff.1 hk).1
      simp only [List.length_take] at this; omega
    rw [List.getElem?_take_of_lt hkn, List.getElem?_drop] at hk
    exact ⟨hk, hkn⟩
  refine ⟨c2, g2, m5, by simp; omega, ?_, fun b hb => k2 b (by simp [hb]), ?_, ?_⟩
  · have := (RowAt.append.1 k4).2
    rw [hl1] at this
    exact (RowAt.append.1 this).1
  · intro k x hk hd
    obtain ⟨hk1, hkn⟩ := hget k x hk
    rw [k3 k x hk1 hd, List.getElem?_append_right (by omega), hl1, show o + k - o = k from by omega, List.getElem?_append_left (by omega)]
  · intro k x hk
    obtain ⟨hk1, hkn⟩ := hget k x hk
    simp only [St.cell, place_shift h1 k]
    exact hk1
theorem nil_of_append {a b : List Nat} (h : [] = a ++ b) : a = [] ∧ b = [] := by
  have := List.append_eq_nil_iff.1 h.symm; exact this
theorem q_load1 (hI : Inv E w β s tm g) {o : Oper} {ty : TypeId} {d : TypeDesc} {x : Operand} {X : O} {t : T} {M : List (Nat × Nat)} {s2 : St} (hop : o.op = .load ty x)
    (h1 : P.underlying ty = some d) (h2 : isAggD d = false) (hx : OpdOk x X) (hev : evIns C cx s (.load none) [X] = some (t, s2, M)) : s2 = s ∧ Does P cx E w β s tm g o t s := by
  have key : ∀ b k c, ev tm x = .pointer (some ⟨b, k, none⟩) → w.cell? ⟨b, k, none⟩ = some c → (execOp (ev tm) o).run P w = .ok (.value c) w := by
    intro b k c e hc
    exact exec_v (sm := Instr.loadAt ty (ev tm x)) (by simp only [execOp, hop]) (by rw [e]; simp [Instr.loadAt, Instr.sureAddr, run_load1 w h1 h2 hc])
  simp only [evIns] at hev
  split at hev
  · rename_i r k h
    split at hev
    case h_2 => simp at hev
    rename_i v hv
    simp only [Option.some.injEq, Prod.mk.injEq] at hev
    obtain ⟨rfl, rfl, rfl⟩ := hev
    obtain ⟨fp, k1, _⟩ := opd_tok hI hx h
    simp only [TOk] at k1
    obtain ⟨_, b, o0, cs, he, hat, hrep, _⟩ := k1
    obtain ⟨c1, c, c2, f1, gq, f2, e1, e2, e3, e4, _, _⟩ := hrep.at hv
    have hgq := (nil_of_append (nil_of_append e2).1.symm).2
    subst hgq
    exact ⟨rfl, does_pure hI (key b (o0 + k) c he (hat k c (by rw [e1, ← e3]; simp))) (by simp) e4⟩
  · rename_i hnr
    split at hev
    case h_2 => simp at hev
    rename_i p hp
    split at hev
    case h_2 => simp at hev
    rename_i v hv
    split at hev
    case h_2 => simp at hev
    rename_i t' ht'
    simp only [Option.some.injEq, Prod.mk.injEq] at hev
    obtain ⟨rfl, rfl, rfl⟩ := hev
    obtain ⟨r, o', hpl, _⟩ := cell_place hv
    obtain ⟨b, k, he, ha, hal, hm⟩ := addr_ok hI hx hp (by rw [hpl]; rfl)
    have hnd : v ≠ .dead := by intro e; subst e; simp [alOf] at ht'
    obtain ⟨c, f, q1, q2, _⟩ := cell_rep hI hv hnd
    refine ⟨rfl, does_pure hI (key b k c he (by rw [← val_addr hm ha]; exact q1)) ?_ (al_tok hI hal hv (fun _ => q1) (fun _ => ⟨f, q2⟩) ht')⟩
    intro ts e
    subst e
    unfold alOf at ht'
    split at ht'
    · simp at ht'
    · have := Option.some.inj ht'
      split at this <;> simp at this
theorem q_loadN (hI : Inv E w β s tm g) {o : Oper} {ty : TypeId} {d : TypeDesc} {i : TypeInfo} {x : Operand} {X : O} {t : T} {M : List (Nat × Nat)} {s2 : St} (hop : o.op = .load ty x)
    (h1 : P.underlying ty = some d) (h2 : isAggD d = true) (h3 : P.info? ty = some i) (hx : OpdOk x X) (hev : evIns C cx s (.load (some i.size)) [X] = some (t, s2, M)) : s2 = s ∧ Does P cx E w β s tm g o t s := by
  have key : ∀ b k cs, ev tm x = .pointer (some ⟨b, k, none⟩) → cs.length = i.size → RowAt w b k cs → (execOp (ev tm) o).run P w = .ok (.value (.agg cs.toArray)) w := by
    intro b k cs e hl hc
    exact exec_v (sm := Instr.loadAt ty (ev tm x)) (by simp only [execOp, hop]) (by rw [e]; simp [Instr.loadAt, Instr.sureAddr, run_loadN w h1 h2 h3 hl hc])
  simp only [evIns] at hev
  split at hev
  · rename_i r k h
    split at hev
    case isFalse => simp at hev
    rename_i hle
    simp only [Option.some.injEq, Prod.mk.injEq] at hev
    obtain ⟨rfl, rfl, rfl⟩ := hev
    obtain ⟨fp, k1, _⟩ := opd_tok hI hx h
    simp only [TOk] at k1
    obtain ⟨_, b, o0, cs, he, hat, hrep, _⟩ := k1
    have e : r = r.take k ++ ((r.drop k).take i.size ++ (r.drop k).drop i.size) := by rw [List.take_append_drop, List.take_append_drop]
    rw [e] at hrep
    obtain ⟨c1, dd, f1, f2, rfl, e2, m3, m4⟩ := hrep.split
    obtain ⟨c2, c3, g2, g3, rfl, e3, m5, m6⟩ := m4.split
    have hf2 := (nil_of_append e2).2
    subst hf2
    have hg2 := (nil_of_append e3).1
    subst hg2
    have hl1 : c1.length = k := by rw [m3.len, List.length_take]; omega
    refine ⟨rfl, does_pure hI (key b (o0 + k) c2 he (by rw [m5.len, List.length_take, List.length_drop]; omega) ?_) (by simp) (by simp only [TOk]; exact ⟨_, rfl, m5⟩)⟩
    have := (RowAt.append.1 hat).2
    rw [hl1] at this
    exact (RowAt.append.1 this).1
  · rename_i hnr
    split at hev
    case h_2 => simp at hev
    rename_i p hp
    split at hev
    case h_2 => simp at hev
    rename_i r hr
    simp only [Option.some.injEq, Prod.mk.injEq] at hev
    obtain ⟨rfl, rfl, rfl⟩ := hev
    obtain ⟨row, o', hpl, _, _⟩ := cells_place hr
    obtain ⟨b, k, he, ha, hal, hm⟩ := addr_ok hI hx hp (by rw [hpl]; rfl)
    obtain ⟨cs, f, q1, q2, q3, _, q4, q5⟩ := cells_mem hI hr ha hm
    exact ⟨rfl, does_pure hI (key b k cs he (by rw [q1.len, q2]) q3) (by unfold alaOf; split <;> simp) (ala_tok hal q1 q4 q5 rfl)⟩
theorem q_len (hI : Inv E w β s tm g) {o : Oper} {c : Call} {ty e : TypeId} {x : Operand} {X : O} {v : Sv} (hop : o.op = .call c) (hc : c.callee = .builtin .len) (ha : c.args = #[x]) (hat : c.argTypes[0]? = some ty) (h1 : P.underlying ty = some (.slice e))
    (hx : OpdOk x X) (hv : s.slice X = some v) : Does P cx E w β s tm g o (.one (.sc (.int .i64 v.rows.length))) s := by
  obtain ⟨⟨a, cap, cs, f, he, _⟩, _⟩ := slice_ok hI hx hv
  refine does_pure hI (cv := .int .i64 v.rows.length) ?_ (by simp) (tok_sc rfl)
  simp [execOp, hop, resolve, hc, ha, invoke, builtin, Builtin.len_, hat, run_underlying h1, he, goInt]
theorem q_lenS (hI : Inv E w β s tm g) {o : Oper} {c : Call} {ty : TypeId} {x : Operand} {X : O} {b : ByteArray} (hop : o.op = .call c) (hc : c.callee = .builtin .len) (ha : c.args = #[x]) (hat : c.argTypes[0]? = some ty) (h1 : P.underlying ty = some .string)
    (hx : OpdOk x X) (hv : s.sc X = some (.string b)) : Does P cx E w β s tm g o (.one (.sc (.int .i64 b.size))) s := by
  obtain ⟨he, _⟩ := opd_sc hI hx hv
  refine does_pure hI (cv := .int .i64 b.size) ?_ (by simp) (tok_sc rfl)
  simp [execOp, hop, resolve, hc, ha, invoke, builtin, Builtin.len_, hat, run_underlying h1, he, goInt]
theorem q_mn (hI : Inv E w β s tm g) {o : Oper} {c : Call} {x y : Operand} {X Y : O} {a b : Int} (hop : o.op = .call c) (hc : c.callee = .builtin .min) (ha : c.args = #[x, y])
    (hx : OpdOk x X) (hy : OpdOk y Y) (hv : s.sc X = some (.int .i64 a)) (hw : s.sc Y = some (.int .i64 b)) : Does P cx E w β s tm g o (.one (.sc (.int .i64 (if b < a then b else a)))) s := by
  obtain ⟨e1, _⟩ := opd_sc hI hx hv
  obtain ⟨e2, _⟩ := opd_sc hI hy hw
  refine does_pure hI (cv := .int .i64 (if b < a then b else a)) ?_ (by simp) (tok_sc rfl)
  simp [execOp, hop, resolve, hc, ha, invoke, builtin, Builtin.min_, Builtin.min2, e1, e2]
theorem q_mx (hI : Inv E w β s tm g) {o : Oper} {c : Call} {x y : Operand} {X Y : O} {a b : Int} (hop : o.op = .call c) (hc : c.callee = .builtin .max) (ha : c.args = #[x, y])
    (hx : OpdOk x X) (hy : OpdOk y Y) (hv : s.sc X = some (.int .i64 a)) (hw : s.sc Y = some (.int .i64 b)) : Does P cx E w β s tm g o (.one (.sc (.int .i64 (if b > a then b else a)))) s := by
  obtain ⟨e1, _⟩ := opd_sc hI hx hv
  obtain ⟨e2, _⟩ := opd_sc hI hy hw
  refine does_pure hI (cv := .int .i64 (if b > a then b else a)) ?_ (by simp) (tok_sc rfl)
  simp [execOp, hop, resolve, hc, ha, invoke, builtin, Builtin.max_, Builtin.max2, e1, e2]
theorem q_nilchk (hI : Inv E w β s tm g) {o : Oper} {x : Operand} {X : O} {t : T} {M : List (Nat × Nat)} {s2 : St} (hop : o.op = .nilCheck x) (hx : OpdOk x X) (hev : evIns C cx s .nilchk [X] = some (t, s2, M)) : s2 = s ∧ Does P cx E w β s tm g o t s := by
  have key : ∀ a, ev tm x = .pointer (some a) → (execOp (ev tm) o).run P w = .ok (.value (ev tm x)) w := by
    intro a e
    simp only [execOp, hop, e]; rfl
  simp only [evIns] at hev
  split at hev
  · rename_i r k h
    simp only [Option.some.injEq, Prod.mk.injEq] at hev
    obtain ⟨rfl, rfl, rfl⟩ := hev
    obtain ⟨fp, k1, _⟩ := opd_tok hI hx h
    have k2 := k1
    simp only [TOk, Rep] at k1 k2
    obtain ⟨rfl, b, hb, hv⟩ := k1
    exact ⟨rfl, does_pure hI (key _ hv) (by simp) (by simp only [TOk, Rep]; exact ⟨trivial, k2.2⟩)⟩
  · rename_i f a b h
    simp only [Option.some.injEq, Prod.mk.injEq] at hev
    obtain ⟨rfl, rfl, rfl⟩ := hev
    obtain ⟨fp, k1, _⟩ := opd_tok hI hx h
    have k2 := k1
    simp only [TOk, Rep] at k1 k2
    obtain ⟨rfl, xs, ys, hv, _⟩ := k1
    refine ⟨rfl, does_pure hI (cv := ev tm x) ?_ (by simp) (by simp only [TOk, Rep]; exact ⟨trivial, k2.2⟩)⟩
    simp only [execOp, hop, hv]; rfl
  · rename_i p h
    split at hev
    case isFalse => simp at hev
    rename_i hp
    simp only [Option.some.injEq, Prod.mk.injEq] at hev
    obtain ⟨rfl, rfl, rfl⟩ := hev
    obtain ⟨fp, k1, _⟩ := opd_tok hI hx h
    have := free_fp (t := .ad p) rfl k1
    subst this
    have k2 := k1
    simp only [TOk] at k2
    obtain ⟨b, k, _, hv⟩ := k2.2.2.2 hp
    exact ⟨rfl, does_pure hI (key _ hv) (by simp) k1⟩
  · rename_i r k h
    simp only [Option.some.injEq, Prod.mk.injEq] at hev
    obtain ⟨rfl, rfl, rfl⟩ := hev
    obtain ⟨fp, k1, _⟩ := opd_tok hI hx h
    have := free_fp (t := .rad r k) rfl k1
    subst this
    have k2 := k1
    simp only [TOk] at k2
    obtain ⟨_, b, o0, cs, hv, _⟩ := k2
    exact ⟨rfl, does_pure hI (key _ hv) (by simp) k1⟩
  · simp at hev
def capV (s : St) (o : O) : Option V := match s.opv o with
  | some (.one (.ptr r o)) => some (V.ptr r o)
  | some (.one (.mref r)) => some (V.mref r)
  | some (.one (.sc v)) => some (V.sc v)
  | _ => none
theorem capV_rep (hI : Inv E w β s tm g) {x : Operand} {X : O} {v : V} (hx : OpdOk x X) (h : capV s X = some v) : RepP β v (ev tm x) := by
  unfold capV at h
  split at h
  · rename_i r k h'
    obtain rfl := Option.some.inj h
    obtain ⟨fp, k1, _⟩ := opd_tok hI hx h'
    simp only [TOk, Rep] at k1
    exact k1.2
  · rename_i r h'
    obtain rfl := Option.some.inj h
    obtain ⟨fp, k1, _⟩ := opd_tok hI hx h'
    simp only [TOk, Rep] at k1
    exact k1.2
  · rename_i v' h'
    obtain rfl := Option.some.inj h
    obtain ⟨fp, k1, _⟩ := opd_tok hI hx h'
    simp only [TOk, Rep] at k1
    exact ⟨k1.1, k1.2.1⟩
  · simp at h
theorem caps_rep (hI : Inv E w β s tm g) : ∀ {xs : List Operand} {Xs : List O} {vs : List V}, OpdsOk xs Xs → Xs.mapM (capV s) = some vs → RepPs β vs (xs.map (ev tm)) ∧ vs.length = xs.length
  | [], [], vs, _, h => by simp at h; subst h; simp [RepPs]
  | x :: xs, X :: Xs, vs, ho, h => by
    simp only [OpdsOk] at ho
    simp only [List.mapM_cons, Option.pure_def, Option.bind_eq_bind, Option.bind_eq_some_iff] at h
    obtain ⟨v, h1, vs', h2, h3⟩ := h
    obtain rfl := Option.some.inj h3
    obtain ⟨k1, k2⟩ := caps_rep hI ho.2 h2
    simp only [List.map_cons, RepPs, List.length_cons]
    exact ⟨⟨_, _, rfl, capV_rep hI ho.1 h1, k1⟩, by omega⟩
  | [], _ :: _, _, ho, _ => ho.elim
  | _ :: _, [], _, ho, _ => ho.elim
theorem repPs_take : ∀ (n : Nat) {vs : List V} {cs : List Value}, RepPs β vs cs → RepPs β (vs.take n) (cs.take n) ∧ RepPs β (vs.drop n) (cs.drop n)
  | 0, vs, cs, h => by simp [RepPs, h]
  | n + 1, [], cs, h => by simp only [RepPs] at h; subst h; simp [RepPs]
  | n + 1, v :: vs, cs, h => by
    simp only [RepPs] at h
    obtain ⟨c, cs', rfl, h1, h2⟩ := h
    obtain ⟨k1, k2⟩ := repPs_take n h2
    simp only [List.take_succ_cons, List.drop_succ_cons, RepPs]
    exact ⟨⟨c, _, rfl, h1, k1⟩, k2⟩
theorem q_mkf (hI : Inv E w β s tm g) {o : Oper} {f : Nat} {fs cs : Array Operand} {Xs : List O} {vs : List V} (hop : o.op = .makeFunc (.func f) fs cs) (hx : OpdsOk (fs.toList ++ cs.toList) Xs) (h : Xs.mapM (capV s) = some vs) :
    Does P cx E w β s tm g o (.one (.clo f (vs.take fs.size) (vs.drop fs.size))) s := by
  obtain ⟨k1, k2⟩ := caps_rep hI hx h
  obtain ⟨q1, q2⟩ := repPs_take fs.size k1
  refine does_pure hI (cv := .func (.func f) (fs.map (ev tm)) (cs.map (ev tm))) ?_ (by simp) ?_
  · exact exec_v (sm := Instr.makeFunc (.func f) (fs.map (ev tm)) (cs.map (ev tm))) (by simp only [execOp, hop]) rfl
  · simp only [TOk, Rep]
    refine ⟨trivial, _, _, rfl, ?_, ?_⟩
    · simpa [List.take_left'] using q1
    · simpa [List.drop_left'] using q2
end
end Pv

set_option linter.unusedVariables false
set_option linter.unusedSimpArgs false
namespace Pv
open Go
section
variable {P : Program} {E : Env} {w : World} {β : Nat → Option Nat} {s : St} {tm : Array Value} {g : Nat → List Nat} {cx : Cx} {C : Orc}
theorem run_bound {k : IntKind} {i : Int} {y : Nat} {code : BoundsCode} (h : 0 ≤ i ∧ i ≤ y) : (Instr.sliceBound (.int k i) y code).run P w = .ok i.toNat w := by
  unfold Instr.sliceBound
  simp [asIntOf, h]
def isInt (v : Value) (n : Int) : Prop := ∃ k, v = .int k n
theorem run_sliceAt {tT e : TypeId} {ei : TypeInfo} {low high mx : Option Value} {l h : Int} {a : Option Addr} {len cap : Nat} (h1 : P.underlying tT = some (.slice e)) (h2 : P.info? e = some ei)
    (hl : ∀ v, low = some v → isInt v l) (hl0 : low = none → l = 0) (hh : ∀ v, high = some v → isInt v h) (hh0 : high = none → h = len ∧ mx = none) (hm : ∀ v, mx = some v → isInt v h)
    (b0 : 0 ≤ l) (b1 : l ≤ h) (b2 : h ≤ len) (b3 : len ≤ cap) :
    (Instr.sliceAt tT (.slice a len cap) low high mx).run P w =
      .ok (.slice (if (if mx.isSome then h.toNat else cap) = l.toNat then a else a.map (·.add (l.toNat * ei.size))) (h.toNat - l.toNat) ((if mx.isSome then h.toNat else cap) - l.toNat)) w := by
  have hb : (Instr.sliceBounds true len cap low high mx).run P w = .ok (l.toNat, h.toNat, if mx.isSome then h.toNat else cap) w := by
    unfold Instr.sliceBounds
    cases mx with
    | some v =>
      obtain ⟨k, rfl⟩ := hm v rfl
      cases high with
      | none => exact absurd (hh0 rfl).2 (by simp)
      | some v2 =>
        obtain ⟨k2, rfl⟩ := hh v2 rfl
        have e1 := fun code => run_bound (P := P) (w := w) (k := k) (i := h) (y := cap) (code := code) ⟨by omega, by omega⟩
        have e2 := fun code => run_bound (P := P) (w := w) (k := k2) (i := h) (y := h.toNat) (code := code) ⟨by omega, by omega⟩
        cases low with
        | none =>
          have := hl0 rfl
          subst this
          simp [e1, e2]
        | some v3 =>
          obtain ⟨k3, rfl⟩ := hl v3 rfl
          have e3 := fun code => run_bound (P := P) (w := w) (k := k3) (i := l) (y := h.toNat) (code := code) ⟨by omega, by omega⟩
          simp [e1, e2, e3]
    | none =>
      have e3 := fun k3 code => run_bound (P := P) (w := w) (k := k3) (i := l) (y := h.toNat) (code := code) ⟨by omega, by omega⟩
      cases high with
      | none =>
        obtain ⟨rfl, _⟩ := hh0 rfl
        simp only [Int.toNat_natCast] at e3 ⊢
        cases low with
        | none =>
          have := hl0 rfl
          subst this
          simp []
        | some v3 =>
          obtain ⟨k3, rfl⟩ := hl v3 rfl
          simp [e3]
      | some v2 =>
        obtain ⟨k2, rfl⟩ := hh v2 rfl
        have e2 := fun code => run_bound (P := P) (w := w) (k := k2) (i := h) (y := cap) (code := code) ⟨by omega, by omega⟩
        cases low with
        | none =>
          have := hl0 rfl
          subst this
          simp [e2]
        | some v3 =>
          obtain ⟨k3, rfl⟩ := hl v3 rfl
          simp [e2, e3]
  unfold Instr.sliceAt
  rw [Sem.run_bind, run_underlying h1]
  simp only [Result.andThen_ok]
  unfold Instr.slice
  rw [Sem.run_bind, run_underlying h1]
  simp only [Result.andThen_ok, Sem.run_bind, hb, run_size w h2, Sem.run_pure]
theorem ints_ok (hI : Inv E w β s tm g) : ∀ {xs : List Operand} {Xs : List O} {is : List Int}, OpdsOk xs Xs → Xs.mapM s.int = some is → is.length = xs.length ∧ ∀ (j : Nat) (x : Operand) (i : Int), xs[j]? = some x → is[j]? = some i → isInt (ev tm x) i
  | [], [], is, _, h => by simp at h; subst h; simp
  | x :: xs, X :: Xs, is, ho, h => by
    simp only [OpdsOk] at ho
    simp only [List.mapM_cons, Option.pure_def, Option.bind_eq_bind, Option.bind_eq_some_iff] at h
    obtain ⟨v, h1, vs', h2, h3⟩ := h
    obtain rfl := Option.some.inj h3
    obtain ⟨k1, k2⟩ := ints_ok hI ho.2 h2
    refine ⟨by simp [k1], ?_⟩
    intro j y i hj hi
    cases j with
    | zero =>
      simp only [List.getElem?_cons_zero, Option.some.injEq] at hj hi
      subst hj; subst hi
      exact opd_int hI ho.1 h1
    | succ j => exact k2 j y i (by simpa using hj) (by simpa using hi)
  | [], _ :: _, _, ho, _ => ho.elim
  | _ :: _, [], _, ho, _ => ho.elim
theorem q_slc (hI : Inv E w β s tm g) {o : Oper} {tT e : TypeId} {ei : TypeInfo} {x : Operand} {low high mx : Option Operand} {X : O} {Xs : List O} {t : T} {M : List (Nat × Nat)} {s2 : St} (hop : o.op = .slice tT x low high mx)
    (h1 : P.underlying tT = some (.slice e)) (h2 : P.info? e = some ei) (h3 : mx.isSome = true → high.isSome = true) (hx : OpdOk x X) (hxs : OpdsOk (low.toList ++ high.toList ++ mx.toList) Xs)
    (hev : evIns C cx s (.slc ei.size low.isSome high.isSome mx.isSome) (X :: Xs) = some (t, s2, M)) : s2 = s ∧ Does P cx E w β s tm g o t s := by
  simp only [evIns] at hev
  split at hev
  case h_2 => simp at hev
  rename_i sv is hsv his
  split at hev
  · simp at hev
  rename_i hsz
  simp only [Decidable.not_not] at hsz
  obtain ⟨il, ii⟩ := ints_ok hI hxs his
  generalize hL : (if low.isSome = true then is.getD 0 0 else 0) = l at *
  generalize hH : (if high.isSome = true then is.getD (if low.isSome = true then 1 else 0) 0 else (sv.rows.length : Int)) = h at *
  generalize hX : is.getD (if low.isSome = true then 2 else 1) 0 = mi at *
  split at hev
  · simp at hev
  rename_i hmax
  split at hev
  case isFalse => simp at hev
  rename_i hb
  obtain ⟨⟨a, cap, cs, f, hc, hcap, hl, hno⟩, hplace⟩ := slice_ok hI hx hsv
  have hrun : (execOp (ev tm) o).run P w = .ok (.value (.slice (if (if mx.isSome then h.toNat else cap) = l.toNat then a else a.map (·.add (l.toNat * ei.size))) (h.toNat - l.toNat) ((if mx.isSome then h.toNat else cap) - l.toNat))) w := by
    refine exec_v (sm := Instr.sliceAt tT (ev tm x) (low.map (ev tm)) (high.map (ev tm)) (mx.map (ev tm))) (by simp only [execOp, hop]) ?_
    rw [hc]
    have ii' : ∀ (j : Nat) (x : Operand), (low.toList ++ high.toList ++ mx.toList)[j]? = some x → isInt (ev tm x) (is.getD j 0) := by
      intro j y hj
      have hlt := (List.getElem?_eq_some_iff.1 hj).1
      have hlt2 : j < is.length := by rw [il]; exact hlt
      have := ii j y is[j] hj (List.getElem?_eq_getElem hlt2)
      rw [List.getD_eq_getElem?_getD, List.getElem?_eq_getElem hlt2]; exact this
    have hmax' : mx.isSome = true → is.getD (if low.isSome = true then 2 else 1) 0 = h := by
      intro hm
      rw [hm] at hmax
      rw [hX]
      simpa using hmax
    have := run_sliceAt (P := P) (w := w) (low := low.map (ev tm)) (high := high.map (ev tm)) (mx := mx.map (ev tm)) (l := l) (h := h) (a := a) (len := sv.rows.length) (cap := cap) h1 h2 ?_ ?_ ?_ ?_ ?_ hb.1 hb.2.1 hb.2.2 hcap
    · simpa using this
    · intro v hv
      cases low with
      | none => simp at hv
      | some y =>
        simp only [Option.map_some, Option.some.injEq] at hv
        subst hv; subst hL
        exact ii' 0 y (by simp)
    · intro hv
      cases low with
      | none => subst hL; rfl
      | some y => simp at hv
    · intro v hv
      cases high with
      | none => simp at hv
      | some y =>
        simp only [Option.map_some, Option.some.injEq] at hv
        subst hv; subst hH
        cases low with
        | none => exact ii' 0 y (by simp)
        | some z => exact ii' 1 y (by simp)
    · intro hv
      cases high with
      | none =>
        subst hH
        refine ⟨by simp, ?_⟩
        cases mx with
        | none => rfl
        | some z => exact absurd (h3 rfl) (by simp)
      | some y => simp at hv
    · intro v hv
      cases mx with
      | none => simp at hv
      | some y =>
        simp only [Option.map_some, Option.some.injEq] at hv
        subst hv
        cases high with
        | none => exact absurd (h3 rfl) (by simp)
        | some z =>
          rw [← hmax' rfl]
          cases low with
          | none => exact ii' 1 y (by simp)
          | some u => exact ii' 2 y (by simp)
  split at hev
  · -- a part of what is owned
    rename_i cp p hp
    simp only [Option.some.injEq, Prod.mk.injEq] at hev
    obtain ⟨rfl, rfl, rfl⟩ := hev
    obtain ⟨R, a0, cap0, fR, q1, q2, q3, q4, q5, q6, q7, q8⟩ := hplace p 0 false hp
    obtain ⟨hcap0, hz, hs0⟩ : R.length ≤ cap0 ∧ (a0 = none → cap0 = 0) ∧ ∀ ad, a0 = some ad → ad.spot = none := by
      obtain ⟨a', cap', cs', f', e, hle, hl', _, hz⟩ := q3.lies
      simp only [Value.slice.injEq] at e
      obtain ⟨rfl, _, rfl⟩ := e
      exact ⟨hle, hz, fun ad e => (hl'.at' ad e).1⟩
    rw [cut_whole sv.sz (by omega) hz hs0, hc, Nat.zero_add] at q8
    simp only [Value.slice.injEq, true_and] at q8
    obtain ⟨rfl, rfl⟩ := q8
    refine ⟨rfl, does_pure hI hrun (by simp) ?_⟩
    simp only [TOk]
    refine ⟨trivial, q5, fun l' sz' rows' hcell => ?_⟩
    rw [q1] at hcell
    simp only [Option.some.injEq, V.sl.injEq] at hcell
    obtain ⟨rfl, rfl, rfl⟩ := hcell
    refine ⟨a, cap, q2, by omega, by omega, ?_⟩
    simp only [cutVal, hsz]
  · simp at hev
  · rename_i hp
    split at hev
    · simp at hev
    rename_i hmx
    simp only [Bool.not_eq_true] at hmx
    simp only [Option.some.injEq, Prod.mk.injEq] at hev
    obtain ⟨rfl, rfl, rfl⟩ := hev
    rw [hmx] at hrun
    simp only [Bool.false_eq_true, if_false] at hrun
    refine ⟨rfl, does_pure hI hrun (by simp) ?_⟩
    simp only [TOk]
    have hh : h.toNat ≤ sv.rows.length := by omega
    have hlh : l.toNat ≤ h.toNat := by omega
    have hlen : ((sv.rows.drop l.toNat).take (h.toNat - l.toNat)).length = h.toNat - l.toNat := by simp; omega
    have hnl : ∀ t, sv.lab.inner ≠ .lent t := by intro t; cases sv.lab <;> simp [Lab.inner]
    obtain ⟨cs', f', m1, m2⟩ := hl.cut hlh hh (a2 := if cap = l.toNat then a else a.map (·.add (l.toNat * ei.size))) (by
      by_cases hcl : cap = l.toNat
      · rw [if_pos hcl]; exact .inr ⟨rfl, by omega⟩
      · rw [if_neg hcl, hsz]; exact .inl rfl)
    rcases hno hp with ⟨rfl, rfl, hrows⟩ | ⟨rfl, hlab, ad, rfl, hlo⟩
    · have hl0 : l.toNat = 0 := by rw [hrows] at hh; simp at hh; omega
      have hh0 : h.toNat = 0 := by rw [hrows] at hh; simpa using hh
      simp only [hl0, hh0, if_true, Nat.sub_zero, List.take_zero, Rep]
      exact ⟨none, 0, 0, [], [], rfl, rfl, Nat.le_refl _, by simp [RepRows], by simp [SlOk], fun t e => absurd e (hnl t)⟩
    · have hf' : f' = [] := by
        cases f' with
        | nil => rfl
        | cons b _ => exact absurd (m2 b List.mem_cons_self) (by simp)
      subst hf'
      simp only [Rep]
      have hin : sv.lab.inner ≠ .own := by cases hs : sv.lab <;> simp_all [Lab.inner]
      have hlo2 : LabOk E sv.lab.inner ad.block := by
        cases hs : sv.lab <;> rw [hs] at hlo <;> exact hlo
      by_cases hcl : cap = l.toNat
      · rw [if_pos hcl] at m1 ⊢
        obtain ⟨n1, n2, n3⟩ := m1.at' ad rfl
        exact ⟨some ad, _, _, cs', [], rfl, hlen, by omega, m1.rep, by simp only [SlOk]; exact ⟨n1, n2, n3, .inr ⟨hin, trivial, trivial, hlo2⟩⟩, fun t e => absurd e (hnl t)⟩
      · rw [if_neg hcl] at m1 ⊢
        obtain ⟨n1, n2, n3⟩ := m1.at' _ rfl
        have hb2 : (ad.add (l.toNat * ei.size)).block = ad.block := by rw [add_spot (hl.at' ad rfl).1]
        exact ⟨some (ad.add (l.toNat * ei.size)), _, _, cs', [], rfl, hlen, by omega, m1.rep, by simp only [SlOk]; exact ⟨n1, n2, n3, .inr ⟨hin, trivial, trivial, by rw [hb2]; exact hlo2⟩⟩, fun t e => absurd e (hnl t)⟩
end
end Pv

set_option linter.unusedVariables false
set_option linter.unusedSimpArgs false
namespace Pv
open Go
theorem roRow_len : ∀ (v : List V), (roRow v).length = v.length
  | [] => rfl
  | _ :: r => by simp only [roRow, List.length_cons]; rw [roRow_len r]
theorem roRows_len : ∀ (v : List (List V)), (roRows v).length = v.length
  | [] => rfl
  | _ :: r => by simp only [roRows, List.length_cons]; rw [roRows_len r]
theorem roRow_noPtr : ∀ (v : List V), v.all V.noPtr = true → (roRow v).all V.noPtr = true
  | [], _ => rfl
  | v :: r, h => by
    simp only [List.all_cons, Bool.and_eq_true] at h
    simp only [roRow, List.all_cons, Bool.and_eq_true]
    refine ⟨?_, roRow_noPtr r h.2⟩
    cases v <;> first | rfl | exact h.1 | skip
    rename_i l sz rows
    cases l <;> rfl
section
variable {P : Program} {E : Env} {w : World} {β : Nat → Option Nat} {s : St} {tm : Array Value} {g : Nat → List Nat} {cx : Cx} {C : Orc}
theorem ro_noOwn {v : V} (h : v.noOwn = true) : v.ro = v := by
  cases v <;> try rfl
  rename_i l sz rows
  cases l <;> first | rfl | simp [V.noOwn] at h
mutual
theorem Rep.toRo {rel : List Nat} : ∀ (v : V) (c : Value) (f : List Nat), (∀ b ∈ f, b ∈ rel) → Rep E w β v c f → Rep (E.minus rel) w β v.ro c []
  | .sc v, c, f, hf, h => by simpa [Rep, V.ro] using ⟨(show c = v ∧ isSca v = true ∧ f = [] by simpa [Rep] using h).1, (show c = v ∧ isSca v = true ∧ f = [] by simpa [Rep] using h).2.1⟩
  | .sl .own sz rows, c, f, hf, h => by
    simp only [Rep] at h
    obtain ⟨a, len, cap, cs, f', h1, h2, h3, h4, h5, h6⟩ := h
    simp only [V.ro, Rep]
    cases a with
    | none =>
      simp only [SlOk] at h5
      have hr : rows = [] := List.length_eq_zero_iff.1 (h2.trans h5.1)
      subst hr
      simp only [RepRows] at h4
      refine ⟨none, len, cap, [], [], h1, by simpa [roRows] using h2, h3, by simp [RepRows, roRows], ?_, by simp⟩
      simp only [SlOk]; exact ⟨h5.1, h5.2.1, trivial⟩
    | some a =>
      simp only [SlOk] at h5
      obtain ⟨k1, k2, k3, k4⟩ := h5
      rcases k4 with ⟨_, k5, _⟩ | ⟨k5, _⟩
      · have hab : a.block ∈ rel := hf _ (by rw [k5]; exact List.mem_cons_self)
        refine ⟨some a, len, cap, cs, [], h1, by rw [roRows_len]; exact h2, h3, RepRows.toRo sz rows cs f' (fun b hb => hf b (by rw [k5]; exact List.mem_cons_of_mem _ hb)) h4, ?_, by simp⟩
        simp only [SlOk]
        exact ⟨k1, k2, k3, .inr ⟨by simp, trivial, trivial, fun h => h.2 hab⟩⟩
      · exact absurd rfl k5
  | .sl .ro sz rows, c, f, hf, h => by
    have := noOwn_fp (v := .sl .ro sz rows) rfl h
    subst this; exact h.frame (Stp.minus E w rel) (fun _ _ h => h) _ _ _ (by simp)
  | .sl (.lent t) sz rows, c, f, hf, h => by
    have := noOwn_fp (v := .sl (.lent t) sz rows) rfl h
    subst this; exact h.frame (Stp.minus E w rel) (fun _ _ h => h) _ _ _ (by simp)
  | .sl (.part t) sz rows, c, f, hf, h => by
    have := noOwn_fp (v := .sl (.part t) sz rows) rfl h
    subst this; exact h.frame (Stp.minus E w rel) (fun _ _ h => h) _ _ _ (by simp)
  | .ptr r o, c, f, hf, h => by
    simp only [V.ro, Rep] at h ⊢; exact ⟨trivial, h.2⟩
  | .clo a b d, c, f, hf, h => by
    simp only [V.ro, Rep] at h ⊢; exact ⟨trivial, h.2⟩
  | .mref r, c, f, hf, h => by
    simp only [V.ro, Rep] at h ⊢; exact ⟨trivial, h.2⟩
  | .mp .., _, _, _, h => by simp [Rep] at h
  | .dead, _, _, _, h => by simp [Rep, V.ro]
theorem RepRow.toRo {rel : List Nat} : ∀ (v : List V) (c : List Value) (f : List Nat), (∀ b ∈ f, b ∈ rel) → RepRow E w β v c f → RepRow (E.minus rel) w β (roRow v) c []
  | [], c, f, hf, h => by simp only [RepRow] at h; simp [roRow, RepRow, h.1]
  | v :: r, c, f, hf, h => by
    simp only [RepRow] at h
    obtain ⟨c1, cs, f1, f2, rfl, rfl, h1, h2⟩ := h
    simp only [roRow, RepRow]
    exact ⟨c1, cs, [], [], rfl, rfl, Rep.toRo v c1 f1 (fun b hb => hf b (by simp [hb])) h1, RepRow.toRo r cs f2 (fun b hb => hf b (by simp [hb])) h2⟩
theorem RepRows.toRo {rel : List Nat} (sz : Nat) : ∀ (v : List (List V)) (c : List Value) (f : List Nat), (∀ b ∈ f, b ∈ rel) → RepRows E w β sz v c f → RepRows (E.minus rel) w β sz (roRows v) c []
  | [], c, f, hf, h => by simp only [RepRows] at h; simp [roRows, RepRows, h.1]
  | v :: r, c, f, hf, h => by
    simp only [RepRows] at h
    obtain ⟨c1, cs, f1, f2, rfl, rfl, h0, h0', h1, h2⟩ := h
    simp only [roRows, RepRows]
    exact ⟨c1, cs, [], [], rfl, rfl, by rw [roRow_len]; exact h0, roRow_noPtr v h0', RepRow.toRo v c1 f1 (fun b hb => hf b (by simp [hb])) h1, RepRows.toRo sz r cs f2 (fun b hb => hf b (by simp [hb])) h2⟩
end
def Tk (E : Env) (w : World) (β : Nat → Option Nat) : List V → List V → List Value → List Value → Prop
  | [], [], [], [] => True
  | a :: r, b :: q, c :: cs, d :: ds => ((a.noOwn = true ∧ Rep E w β a c []) ∨ ((∃ sz rows, a = .sl .own sz rows) ∧ a = b ∧ c = d)) ∧ Tk E w β r q cs ds
  | _, _, _, _ => False
theorem Tk.dead : ∀ {r q : List V} {cs ds : List Value} {f : List Nat}, Tk E w β r q cs ds → RepRow E w β q ds f → RepRow (E.minus []) w β (lowWith r (deads r) q) ds []
  | [], [], [], [], f, _, h => by simp [lowWith, RepRow]
  | a :: r, b :: q, c :: cs, d :: ds, f, h, k => by
    simp only [Tk] at h
    simp only [RepRow] at k
    obtain ⟨c', cs', f1, f2, e, rfl, k1, k2⟩ := k
    simp only [List.cons.injEq] at e
    obtain ⟨rfl, rfl⟩ := e
    simp only [deads, List.map_cons, lowWith, RepRow]
    refine ⟨d, ds, [], [], rfl, rfl, ?_, Tk.dead h.2 k2⟩
    split
    · split
      · rename_i hb
        have := noOwn_fp hb k1
        subst this
        exact k1.frame (Stp.minus E w []) (fun _ _ h => h) _ _ _ (by simp)
      · simp [Rep]
    · simp [Rep]
  | [], _ :: _, _, _, _, h, _ => by simp [Tk] at h
  | _ :: _, [], _, _, _, h, _ => by simp [Tk] at h
  | [], [], _ :: _, _, _, h, _ => by simp [Tk] at h
  | [], [], [], _ :: _, _, h, _ => by simp [Tk] at h
  | _ :: _, _ :: _, [], _, _, h, _ => by simp [Tk] at h
  | _ :: _, _ :: _, _ :: _, [], _, h, _ => by simp [Tk] at h
theorem Tk.ro {rel : List Nat} : ∀ {r q : List V} {cs ds : List Value} {f : List Nat}, Tk E w β r q cs ds → RepRow E w β q ds f → (∀ b ∈ f, b ∈ rel) → RepRow (E.minus rel) w β (lowWith r (roRow r) q) ds [] ∧ RepRow (E.minus rel) w β (roRow r) cs []
  | [], [], [], [], f, _, h, _ => by simp [lowWith, RepRow, roRow]
  | a :: r, b :: q, c :: cs, d :: ds, f, h, k, hr => by
    simp only [Tk] at h
    simp only [RepRow] at k
    obtain ⟨c', cs', f1, f2, e, rfl, k1, k2⟩ := k
    simp only [List.cons.injEq] at e
    obtain ⟨rfl, rfl⟩ := e
    obtain ⟨m1, m2⟩ := Tk.ro h.2 k2 (fun b hb => hr b (by simp [hb]))
    simp only [roRow, lowWith, RepRow]
    refine ⟨⟨d, ds, [], [], rfl, rfl, ?_, m1⟩, ⟨c, cs, [], [], rfl, rfl, ?_, m2⟩⟩
    · split
      · split
        · rename_i hb
          have := noOwn_fp hb k1
          subst this
          exact k1.frame (Stp.minus E w rel) (fun _ _ h => h) _ _ _ (by simp)
        · simp [Rep]
      · rename_i hn
        rcases h.1 with ⟨h1, _⟩ | ⟨_, rfl, rfl⟩
        · exact absurd h1 hn
        · exact k1.toRo _ _ _ (fun b hb => hr b (by simp [hb]))
    · rcases h.1 with ⟨h1, h2⟩ | ⟨_, rfl, rfl⟩
      · exact h2.toRo _ _ _ (by simp)
      · exact k1.toRo _ _ _ (fun b hb => hr b (by simp [hb]))
  | [], _ :: _, _, _, _, h, _, _ => by simp [Tk] at h
  | _ :: _, [], _, _, _, h, _, _ => by simp [Tk] at h
  | [], [], _ :: _, _, _, h, _, _ => by simp [Tk] at h
  | [], [], [], _ :: _, _, h, _, _ => by simp [Tk] at h
  | _ :: _, _ :: _, [], _, _, h, _, _ => by simp [Tk] at h
  | _ :: _, _ :: _, _ :: _, [], _, h, _, _ => by simp [Tk] at h
theorem Tk.own : ∀ {r q : List V} {cs ds : List Value} {f : List Nat}, Tk E w β r q cs ds → RepRow E w β q ds f → ∃ f', RepRow (E.minus []) w β r cs f' ∧ f'.Sublist f
  | [], [], [], [], f, _, h => ⟨[], by simp [RepRow], List.nil_sublist _⟩
  | a :: r, b :: q, c :: cs, d :: ds, f, h, k => by
    simp only [Tk] at h
    simp only [RepRow] at k
    obtain ⟨c', cs', f1, f2, e, rfl, k1, k2⟩ := k
    simp only [List.cons.injEq] at e
    obtain ⟨rfl, rfl⟩ := e
    obtain ⟨f', m1, m2⟩ := Tk.own h.2 k2
    rcases h.1 with ⟨h1, h2⟩ | ⟨_, rfl, rfl⟩
    · refine ⟨[] ++ f', by simp only [RepRow]; exact ⟨c, cs, [], f', rfl, rfl, h2.frame (Stp.minus E w []) (fun _ _ h => h) _ _ _ (by simp), m1⟩, ?_⟩
      exact List.Sublist.append (List.nil_sublist _) m2
    · exact ⟨f1 ++ f', by simp only [RepRow]; exact ⟨_, cs, f1, f', rfl, rfl, k1.frame (Stp.minus E w []) (fun _ _ h => h) _ _ _ (by simp), m1⟩, List.Sublist.append (List.Sublist.refl _) m2⟩
  | [], _ :: _, _, _, _, h, _ => by simp [Tk] at h
  | _ :: _, [], _, _, _, h, _ => by simp [Tk] at h
  | [], [], _ :: _, _, _, h, _ => by simp [Tk] at h
  | [], [], [], _ :: _, _, h, _ => by simp [Tk] at h
  | _ :: _, _ :: _, [], _, _, h, _ => by simp [Tk] at h
  | _ :: _, _ :: _, _ :: _, [], _, h, _ => by simp [Tk] at h
theorem Tk.mk : ∀ {r q : List V} {cs ds : List Value}, r.length = q.length → cs.length = r.length → ds.length = q.length →
    (∀ (k : Nat) (a : V) (c : Value), r[k]? = some a → cs[k]? = some c → (a.noOwn = true ∧ Rep E w β a c []) ∨ ((∃ sz rows, a = .sl .own sz rows) ∧ q[k]? = some a ∧ ds[k]? = some c)) → Tk E w β r q cs ds
  | [], [], [], [], _, _, _, _ => trivial
  | a :: r, b :: q, c :: cs, d :: ds, h1, h2, h3, h => by
    simp only [Tk]
    refine ⟨?_, Tk.mk (by simpa using h1) (by simpa using h2) (by simpa using h3) (fun k a c e1 e2 => by simpa using h (k + 1) a c (by simpa using e1) (by simpa using e2))⟩
    rcases h 0 a c rfl rfl with h | ⟨h4, h5, h6⟩
    · exact .inl h
    · simp only [List.getElem?_cons_zero, Option.some.injEq] at h5 h6
      exact .inr ⟨h4, h5.symm, h6.symm⟩
  | [], _ :: _, _, _, h, _, _, _ => by simp at h
  | _ :: _, [], _, _, h, _, _, _ => by simp at h
  | [], [], _ :: _, _, _, h, _, _ => by simp at h
  | [], [], [], _ :: _, _, _, h, _ => by simp at h
  | _ :: _, _ :: _, [], _, _, h, _, _ => by simp at h
  | _ :: _, _ :: _, _ :: _, [], _, _, h, _ => by simp at h
theorem lowWith_get : ∀ {r x q : List V} {k : Nat} {v : V}, (lowWith r x q)[k]? = some v → ∃ a y b, r[k]? = some a ∧ x[k]? = some y ∧ q[k]? = some b ∧ v = (if a.noOwn then (if b.noOwn then b else .dead) else y)
  | [], _, _, _, _, h => by simp [lowWith] at h
  | _ :: _, [], _, _, _, h => by simp [lowWith] at h
  | _ :: _, _ :: _, [], _, _, h => by simp [lowWith] at h
  | a :: r, y :: x, b :: q, 0, v, h => by
    simp only [lowWith, List.getElem?_cons_zero, Option.some.injEq] at h
    exact ⟨a, y, b, rfl, rfl, rfl, h.symm⟩
  | a :: r, y :: x, b :: q, k + 1, v, h => by
    simp only [lowWith, List.getElem?_cons_succ] at h
    obtain ⟨a', y', b', h1, h2, h3, h4⟩ := lowWith_get (r := r) (x := x) (q := q) (k := k) h
    exact ⟨a', y', b', h1, h2, h3, h4⟩
theorem lowWith_len : ∀ {r x q : List V}, x.length = r.length → q.length = r.length → (lowWith r x q).length = r.length
  | [], _, _, _, _ => by simp [lowWith]
  | _ :: _, [], _, h, _ => by simp at h
  | _ :: _, _ :: _, [], _, h => by simp at h
  | a :: r, y :: x, b :: q, h1, h2 => by
    simp only [lowWith, List.length_cons]
    rw [lowWith_len (by simpa using h1) (by simpa using h2)]
theorem ro_get : ∀ {r : List V} {k : Nat} {v : V}, (roRow r)[k]? = some v → ∃ a, r[k]? = some a ∧ v = a.ro
  | [], _, _, h => by simp [roRow] at h
  | a :: r, 0, v, h => by simp only [roRow, List.getElem?_cons_zero, Option.some.injEq] at h; exact ⟨a, rfl, h.symm⟩
  | a :: r, k + 1, v, h => by simp only [roRow, List.getElem?_cons_succ] at h; simpa using ro_get h
theorem takeAt_ok (hI : Inv E w β s tm g) {p : Pl} {r q : List V} {ag : Bool} {res : Bool} {r2 : List V} {ag2 : Bool} {u : Upd} {m : List (Nat × Nat)} (hq : s.cells p r.length = some q) {cs : List Value} (hl : cs.length = r.length)
    (hv : ∀ (k : Nat) (a : V) (c : Value), r[k]? = some a → cs[k]? = some c → a ≠ .dead → (a.noOwn = true ∧ Rep E w β a c []) ∨ ((∃ sz rows, a = .sl .own sz rows) ∧ q[k]? = some a ∧ plVal w β tm (shift p k) = some c))
    (ht : s.takeAt cx res p r q ag = some (r2, ag2, u, m)) :
    ag2 = ag ∧ r2.length = r.length ∧ r2.any V.isDead = false ∧ ∃ E2 g2 f, Inv E2 w β (s.upd u) tm g2 ∧ Fr E w β g E2 w β g2 [f] ∧ RepRow E2 w β r2 cs f ∧ f.Nodup ∧ (∀ b ∈ f, E2.own b ∧ E2.tag b = none ∧ b < w.heap.size) ∧ (∀ i, ∀ b ∈ f, b ∉ g2 i) ∧
      ∀ i, isBox i = true → ((s.upd u).get i).isSome → (s.get i).isSome := by
  unfold St.takeAt at ht
  split at ht
  · simp at ht
  rename_i hnd
  simp only [Bool.not_eq_true] at hnd
  have hnd' : ∀ (k : Nat) (a : V), r[k]? = some a → a ≠ .dead := by
    intro k a hk e
    subst e
    have := List.any_eq_false.1 hnd .dead (List.mem_of_getElem? hk)
    exact this rfl
  split at ht
  · rename_i hno
    simp only [Option.some.injEq, Prod.mk.injEq] at ht
    obtain ⟨rfl, rfl, rfl, rfl⟩ := ht
    refine ⟨rfl, rfl, hnd, E, g, [], hI, { Fr.refl with res := by simp }, ?_, by simp, by simp, by simp, fun _ _ h => h⟩
    have key : ∀ (r : List V) (cs : List Value), cs.length = r.length → (∀ (k : Nat) (a : V) (c : Value), r[k]? = some a → cs[k]? = some c → Rep E w β a c []) → RepRow E w β r cs [] := by
      intro r
      induction r with
      | nil => intro cs hl _; simp only [List.length_nil, List.length_eq_zero_iff] at hl; subst hl; simp [RepRow]
      | cons a r ih =>
        intro cs hl h
        cases cs with
        | nil => simp at hl
        | cons c cs =>
          simp only [RepRow]
          exact ⟨c, cs, [], [], rfl, rfl, h 0 a c rfl rfl, ih cs (by simpa using hl) (fun k a c h1 h2 => h (k + 1) a c (by simpa using h1) (by simpa using h2))⟩
    refine key r cs hl (fun k a c h1 h2 => ?_)
    rcases hv k a c h1 h2 (hnd' k a h1) with ⟨_, h⟩ | ⟨⟨sz, rows, e⟩, _⟩
    · exact h
    · have := List.all_eq_true.1 hno a (List.mem_of_getElem? h1)
      rw [e] at this; simp [V.noOwn] at this
  rename_i hno
  have hql : q.length = r.length := by
    obtain ⟨row', o, h1, h2, rfl⟩ := cells_place hq
    simp; omega
  have main : ∀ (x : List V) (u : Upd), x.length = r.length → (∀ (k : Nat) (y : V), x[k]? = some y → ∃ a, r[k]? = some a ∧ (y = .dead ∨ y = a.ro)) → s.put p (lowWith r x q) false = some u →
      ∃ cS fS, RepRow E w β q cS fS ∧ (∀ b ∈ fS, b ∈ g p.r) ∧ fS.Nodup ∧ Tk E w β r q cs cS ∧ ∀ rel, (∀ b ∈ rel, b ∈ fS) → RepRow (E.minus rel) w β (lowWith r x q) cS [] →
        ∃ g2, Inv (E.minus rel) w β (s.upd u) tm g2 ∧ Fr E w β g (E.minus rel) w β g2 [] ∧ (∀ i, ∀ b ∈ fS, b ∉ g2 i) ∧ ∀ i, isBox i = true → ((s.upd u).get i).isSome → (s.get i).isSome := by
    intro x u hxl hx hput
    unfold St.put at hput
    split at hput
    case h_2 => simp at hput
    rename_i t v hg
    split at hput
    case isFalse => simp at hput
    rename_i hver
    subst hver
    split at hput
    case h_2 => simp at hput
    rename_i row hrow
    split at hput
    case h_2 => simp at hput
    rename_i row2 hset
    obtain rfl := Option.some.inj hput
    simp only [Bool.false_eq_true, if_false]
    obtain ⟨row', o, h1, h2, hqe⟩ := cells_place hq
    obtain ⟨t', row0, k1, k2, k3⟩ := place_some h1
    rw [hg] at k1
    simp only [Option.some.injEq, Prod.mk.injEq, and_true] at k1
    subst k1
    rw [hrow] at k2
    obtain rfl := Option.some.inj k2
    have hlen : (lowWith r x q).length = r.length := lowWith_len hxl hql
    have hqk : ∀ (k : Nat) (v : V), q[k]? = some v → row'[o + k]? = some v := by
      intro k v hk
      rw [hqe] at hk
      have hkn : k < r.length := by
        have := (List.getElem?_eq_some_iff.1 hk).1
        simp only [List.length_take] at this; omega
      rw [List.getElem?_take_of_lt hkn, List.getElem?_drop] at hk
      exact hk
    have hown : ∀ (k : Nat) (a b : V), r[k]? = some a → q[k]? = some b → a.noOwn = false → (∃ sz rows, a = .sl .own sz rows) ∧ a = b := by
      intro k a b ha hb hn
      have hk : k < cs.length := by rw [hl]; exact (List.getElem?_eq_some_iff.1 ha).1
      rcases hv k a cs[k] ha (List.getElem?_eq_getElem hk) (hnd' k a ha) with ⟨h, _⟩ | ⟨h, h', _⟩
      · rw [hn] at h; simp at h
      · rw [hb] at h'; exact ⟨h, (Option.some.inj h').symm⟩
    obtain ⟨r', o', cS, fS, m1, m2, m3, m4, m5, m6, _, m8⟩ := hI.lower hg hrow hset (by
        intro k v hk
        obtain ⟨a, y, b, e1, e2, e3, rfl⟩ := lowWith_get hk
        split
        · split
          · rename_i hb; exact .inl hb
          · exact .inr rfl
        · rename_i hn
          obtain ⟨a', e4, e5⟩ := hx k y e2
          rw [e1] at e4
          obtain rfl := Option.some.inj e4
          rcases e5 with rfl | rfl
          · exact .inr rfl
          · obtain ⟨⟨sz, rows, rfl⟩, _⟩ := hown k a b e1 e3 (by simpa using hn)
            exact .inl rfl) (by
        intro hp
        obtain ⟨_, _, _, _, _, h4⟩ := hI.seg h1
        obtain ⟨_, _, _, _, _, _, hnp⟩ := h4 hp
        rw [List.all_eq_true]
        intro v hvm
        obtain ⟨k, hk⟩ := List.mem_iff_getElem?.1 hvm
        obtain ⟨a, y, b, e1, e2, e3, rfl⟩ := lowWith_get hk
        split
        · split
          · exact List.all_eq_true.1 hnp b (List.mem_of_getElem? (hqk k b e3))
          · rfl
        · rename_i hn
          obtain ⟨a', e4, e5⟩ := hx k y e2
          rw [e1] at e4
          obtain rfl := Option.some.inj e4
          rcases e5 with rfl | rfl
          · rfl
          · obtain ⟨⟨sz, rows, rfl⟩, _⟩ := hown k a b e1 e3 (by simpa using hn)
            rfl) (by
        intro r'' o'' k l sz rows hg' hk
        rw [k3] at hg'
        simp only [Option.some.injEq, Prod.mk.injEq] at hg'
        obtain ⟨rfl, rfl⟩ := hg'
        obtain ⟨a, y, b, e1, e2, e3, e⟩ := lowWith_get hk
        split at e
        · split at e
          · subst e; exact ⟨l, rows, hqk k _ e3, rfl⟩
          · simp at e
        · rename_i hn
          obtain ⟨a', e4, e5⟩ := hx k y e2
          rw [e1] at e4
          obtain rfl := Option.some.inj e4
          subst e
          obtain ⟨⟨sz', rows', rfl⟩, hab⟩ := hown k a b e1 e3 (by simpa using hn)
          rcases e5 with e5 | e5
          · simp at e5
          · simp only [V.ro, V.sl.injEq] at e5
            obtain ⟨rfl, rfl, rfl⟩ := e5
            subst hab
            exact ⟨.own, rows', hqk k _ e3, by rw [roRows_len]⟩)
    rw [k3] at m1
    simp only [Option.some.injEq, Prod.mk.injEq] at m1
    obtain ⟨rfl, rfl⟩ := m1
    rw [hlen] at m3 m6
    rw [← hqe] at m3 m6
    have hcSl : cS.length = q.length := m3.len
    refine ⟨cS, fS, m3, m4, m5, Tk.mk hql.symm hl hcSl ?_, ?_⟩
    · intro k a c ha hc
      rcases hv k a c ha hc (hnd' k a ha) with h | ⟨h, h', h''⟩
      · exact .inl h
      · refine .inr ⟨h, h', ?_⟩
        rw [← h'']
        obtain ⟨sz, rows, e⟩ := h
        exact (m6 k a h' (by rw [e]; simp)).symm
    · intro rel hrel hrep
      obtain ⟨fp2, n1, n2⟩ := m8 rel hrel hrep
      have hnd2 := hI.nodup p.r
      rw [n2.nodup_iff, List.nodup_append] at hnd2
      refine ⟨_, n1, ?_, ?_, ?_⟩
      · refine ⟨Wf.refl w, Nat.le_refl _, ?_, fun b _ h => h.1, rfl, rfl, ?_, by simp, fun _ _ => rfl⟩
        · intro b hb hn
          refine ⟨rfl, ⟨fun h => h.1, fun h => ⟨h, fun hr => hn p.r (m4 b (hrel b hr))⟩⟩⟩
        · intro i b hb
          split at hb
          · exact .inl ⟨p.r, n2.mem_iff.2 (List.mem_append.2 (.inr hb))⟩
          · exact .inl ⟨i, hb⟩
      · intro i b hb hbi
        split at hbi
        · exact hnd2.2.2 b hb b hbi rfl
        · rename_i hne
          exact hI.disj i p.r hne b hbi (m4 b hb)
      · intro i hi hs
        simp only [St.upd] at hs
        rw [get_set] at hs
        split at hs
        · rename_i e; rw [← e, hg]; rfl
        · exact hs
  have hown2 : ∀ b ∈ g p.r, E.own b ∧ E.tag b = none ∧ b < w.heap.size := fun b hb => hI.own p.r b hb
  split at ht
  · -- moved
    split at ht
    case h_2 => simp at ht
    rename_i u' hput
    simp only [Option.some.injEq, Prod.mk.injEq] at ht
    obtain ⟨rfl, rfl, rfl, rfl⟩ := ht
    obtain ⟨cS, fS, n1, n2, n3, n4, n5⟩ := main (deads r) _ (by simp [deads]) (by
      intro k y hk
      simp only [deads, List.getElem?_map, Option.map_eq_some_iff] at hk
      obtain ⟨a, h1, rfl⟩ := hk
      exact ⟨a, h1, .inl rfl⟩) hput
    obtain ⟨g2, q1, q2, q3, q4⟩ := n5 [] (by simp) (n4.dead n1)
    obtain ⟨f, q5, q6⟩ := n4.own n1
    refine ⟨rfl, rfl, hnd, _, g2, f, q1, { q2 with res := ?_ }, q5, n3.sublist q6, ?_, fun i b hb => q3 i b (q6.subset hb), q4⟩
    · intro b hb
      exact .inl ⟨p.r, n2 b (q6.subset (by simpa using hb))⟩
    · intro b hb
      obtain ⟨h1, h2, h3⟩ := hown2 b (n2 b (q6.subset hb))
      exact ⟨⟨h1, by simp⟩, h2, h3⟩
  · -- made read-only
    split at ht
    case h_2 => simp at ht
    rename_i u' hput
    simp only [Option.some.injEq, Prod.mk.injEq] at ht
    obtain ⟨rfl, rfl, rfl, rfl⟩ := ht
    obtain ⟨cS, fS, n1, n2, n3, n4, n5⟩ := main (roRow r) _ (roRow_len r) (by
      intro k y hk
      obtain ⟨a, h1, h2⟩ := ro_get hk
      exact ⟨a, h1, .inr h2⟩) hput
    obtain ⟨q0, q0'⟩ := n4.ro n1 (rel := fS) (fun _ h => h)
    obtain ⟨g2, q1, q2, q3, q4⟩ := n5 fS (fun _ h => h) q0
    refine ⟨rfl, roRow_len r, ?_, _, g2, [], q1, { q2 with res := by simp }, q0', by simp, by simp, by simp, q4⟩
    rw [List.any_eq_false]
    intro v hvm
    obtain ⟨k, hk⟩ := List.mem_iff_getElem?.1 hvm
    obtain ⟨a, h1, rfl⟩ := ro_get hk
    have := hnd' k a h1
    cases a <;> first | (simp [V.ro, V.isDead]; done) | exact absurd rfl this | skip
    rename_i l sz rows
    cases l <;> simp [V.ro, V.isDead]
end
end Pv

set_option linter.unusedVariables false
set_option linter.unusedSimpArgs false
namespace Pv
open Go
section
variable {P : Program} {E : Env} {w : World} {β : Nat → Option Nat} {s : St} {tm : Array Value} {g : Nat → List Nat} {cx : Cx} {C : Orc}
structure Tkn (cx : Cx) (E : Env) (w : World) (β : Nat → Option Nat) (s : St) (tm : Array Value) (g : Nat → List Nat) (s2 : St) (r2 : List V) (cs : List Value) (E2 : Env) (g2 : Nat → List Nat) (f : List Nat) : Prop where
  inv : Inv E2 w β s2 tm g2
  fr : Fr E w β g E2 w β g2 [f]
  rep : RepRow E2 w β r2 cs f
  nd : f.Nodup
  own : ∀ b ∈ f, E2.own b ∧ E2.tag b = none ∧ b < w.heap.size
  dis : ∀ i, ∀ b ∈ f, b ∉ g2 i
  box : ∀ i, isBox i = true → (s2.get i).isSome → (s.get i).isSome
  live : r2.any V.isDead = false
def cellsAre (ag : Bool) (v : Value) (cs : List Value) : Prop := if ag then v = .agg cs.toArray else cs = [v]
theorem cells_tmp {i n : Nat} {t : T} {r : List V} (h : s.get i = some (t, n)) (ht : t.row? = some r) : s.cells (Pl.ofTmp s i) r.length = some r := by
  simp [St.cells, St.place, Pl.ofTmp, St.ver, h, ht, getRow]
theorem own_of {v : V} {c : Value} {f : List Nat} (hn : v.noOwn = false) (hd : v ≠ .dead) (h : Rep E w β v c f) : ∃ sz rows, v = .sl .own sz rows := by
  cases v <;> simp [V.noOwn] at hn
  · rename_i l sz rows
    subst hn; exact ⟨sz, rows, rfl⟩
  · simp [Rep] at h
  · exact absurd rfl hd
theorem alv_of {v : V} (h : v.alv ≠ .dead) : v.alv = v ∧ ∃ l sz rows, v = .sl l sz rows := by
  cases v <;> simp [V.alv] at h ⊢
theorem cells_one {p : Pl} {v : V} (h : s.cell p = some v) : s.cells p 1 = some [v] := by
  obtain ⟨r, o, h1, h2⟩ := cell_place h
  have hlt := (List.getElem?_eq_some_iff.1 h2).1
  simp only [St.cells, h1]
  rw [if_pos (by omega)]
  have : (r.drop o).take 1 = [v] := by
    rw [List.drop_eq_getElem_cons hlt]
    simp [(List.getElem?_eq_some_iff.1 h2).2]
  rw [this]
theorem mergeRow_get : ∀ {r q : List V} {k : Nat} {v : V}, (mergeRow r q)[k]? = some v → ∃ a b, r[k]? = some a ∧ q[k]? = some b ∧ v = if a.noOwn then a else b.alv
  | [], _, _, _, h => by simp [mergeRow] at h
  | _ :: _, [], _, _, h => by simp [mergeRow] at h
  | a :: r, b :: q, 0, v, h => by
    simp only [mergeRow, List.getElem?_cons_zero, Option.some.injEq] at h
    exact ⟨a, b, rfl, rfl, h.symm⟩
  | a :: r, b :: q, k + 1, v, h => by
    simp only [mergeRow, List.getElem?_cons_succ] at h
    obtain ⟨a', b', h1, h2, h3⟩ := mergeRow_get (r := r) (q := q) (k := k) h
    exact ⟨a', b', h1, h2, h3⟩
theorem mergeRow_len : ∀ {r q : List V}, q.length = r.length → (mergeRow r q).length = r.length
  | [], _, _ => by simp [mergeRow]
  | _ :: _, [], h => by simp at h
  | a :: r, b :: q, h => by simp only [mergeRow, List.length_cons]; rw [mergeRow_len (by simpa using h)]
theorem tkn_of (hI : Inv E w β s tm g) {p : Pl} {r q : List V} {ag : Bool} {res : Bool} {r2 : List V} {ag2 : Bool} {u : Upd} {m : List (Nat × Nat)} (hq : s.cells p r.length = some q) {cs : List Value} (hl : cs.length = r.length)
    (hv : ∀ (k : Nat) (a : V) (c : Value), r[k]? = some a → cs[k]? = some c → a ≠ .dead → (a.noOwn = true ∧ Rep E w β a c []) ∨ ((∃ sz rows, a = .sl .own sz rows) ∧ q[k]? = some a ∧ plVal w β tm (shift p k) = some c))
    (ht : s.takeAt cx res p r q ag = some (r2, ag2, u, m)) : ag2 = ag ∧ r2.length = r.length ∧ ∃ E2 g2 f, Tkn cx E w β s tm g (s.upd u) r2 cs E2 g2 f := by
  obtain ⟨h1, h2, h3, E2, g2, f, k1, k2, k3, k4, k5, k6, k7⟩ := takeAt_ok hI hq hl hv ht
  exact ⟨h1, h2, E2, g2, f, ⟨k1, k2, k3, k4, k5, k6, k7, h3⟩⟩
theorem tkn_cst (hI : Inv E w β s tm g) {r : List V} {cs : List Value} (h : RepRow E w β r cs []) (hd : r.any V.isDead = false) : Tkn cx E w β s tm g s r cs E g [] :=
  ⟨hI, { Fr.refl with res := by simp }, h, by simp, by simp, by simp, fun _ _ h => h, hd⟩
theorem Clean.mono {b n m : Nat} (h : Clean w b n) (hm : m ≤ n) : Clean w b m := by
  obtain ⟨c, e, h1, h2⟩ := h; exact ⟨c, e, h1, by omega⟩
theorem Rep.part {sz lo hi cap : Nat} {rows : List (List V)} {a : Option Addr} {f : List Nat} (h : Rep E w β (.sl .own sz rows) (.slice a rows.length cap) f) (h1 : lo ≤ hi) (h2 : hi ≤ rows.length) :
    ∃ f', Rep E w β (.sl .own sz ((rows.drop lo).take (hi - lo))) (cutVal sz lo hi false a cap) f' ∧ f'.Sublist f := by
  simp only [Rep] at h
  obtain ⟨a', len, cap', cs, f', e, e2, hcap, hR, hS, _⟩ := h
  simp only [Value.slice.injEq] at e
  obtain ⟨rfl, rfl, rfl⟩ := e
  have hlen : ((rows.drop lo).take (hi - lo)).length = hi - lo := by simp; omega
  cases a with
  | none =>
    simp only [SlOk] at hS
    obtain ⟨e1, rfl, rfl⟩ := hS
    have hl : lo = 0 := by omega
    have hh : hi = 0 := by omega
    subst hl; subst hh
    refine ⟨[], ?_, List.Sublist.refl _⟩
    simp only [Rep, cutVal]
    exact ⟨none, 0, 0, [], [], by simp, by simp, Nat.le_refl _, by simp [RepRows], by simp [SlOk], by simp⟩
  | some ad =>
    simp only [SlOk] at hS
    obtain ⟨k1, k2, k3, k4⟩ := hS
    rcases k4 with ⟨_, rfl, kc⟩ | ⟨hh, _⟩
    case inr => exact absurd rfl hh
    have e : rows = rows.take lo ++ ((rows.drop lo).take (hi - lo) ++ (rows.drop lo).drop (hi - lo)) := by rw [List.take_append_drop, List.take_append_drop]
    rw [e] at hR
    obtain ⟨c1, d, f1, f2, rfl, rfl, q3, q4⟩ := hR.split
    obtain ⟨c2, c3, g2, g3, rfl, rfl, q5, q6⟩ := q4.split
    have hl1 : c1.length = lo * sz := by rw [q3.len, List.length_take, Nat.min_eq_left (by omega)]
    refine ⟨ad.block :: g2, ?_, List.Sublist.cons_cons _ (List.Sublist.trans (List.sublist_append_left ..) (List.sublist_append_right ..))⟩
    have hcl : ad.off + lo * sz + (cap - lo) * sz = ad.off + cap * sz := by
      rw [Nat.add_assoc, ← Nat.add_mul, Nat.add_sub_cancel' (by omega)]
    simp only [Rep, cutVal, Bool.false_eq_true, if_false]
    by_cases hc : cap = lo
    · rw [if_pos hc]
      have hz : c2 = [] := by
        have := q5.len
        rw [hlen] at this
        have h0 : hi - lo = 0 := by omega
        rw [h0] at this; simpa using this
      refine ⟨some ad, hi - lo, cap - lo, c2, g2, rfl, hlen, by omega, q5, ?_, by simp⟩
      simp only [SlOk]
      exact ⟨k1, by rw [hz]; intro j v hj; simp at hj, k3, .inl ⟨trivial, trivial, kc.mono (by rw [← hcl]; omega)⟩⟩
    · rw [if_neg hc]
      refine ⟨some (ad.add (lo * sz)), hi - lo, cap - lo, c2, g2, rfl, hlen, by omega, q5, ?_, by simp⟩
      simp only [SlOk]
      rw [add_spot k1]
      refine ⟨rfl, ?_, k3, .inl ⟨trivial, rfl, kc.mono (by rw [← hcl]; exact Nat.le_refl _)⟩⟩
      have := (RowAt.append.1 k2).2
      rw [hl1] at this
      exact (RowAt.append.1 this).1
theorem take_ok (hI : Inv E w β s tm g) {x : Operand} {X : O} {res ag : Bool} {r2 : List V} {u : Upd} {m : List (Nat × Nat)} (hx : OpdOk x X) (ht : s.take cx res X = some (r2, ag, u, m)) :
    ∃ cs E2 g2 f, cellsAre ag (ev tm x) cs ∧ Tkn cx E w β s tm g (s.upd u) r2 cs E2 g2 f := by
  unfold St.take at ht
  split at ht
  · rename_i v i h
    obtain ⟨fp, h1, h2⟩ := opd_tok hI hx h
    simp only [TOk] at h1
    rcases h2 with ⟨j, e, e2, hlt, rfl⟩ | ⟨⟨y, e⟩, _⟩
    case inr => simp at e
    simp only [O.t.injEq] at e; subst e; subst e2
    simp only [St.opv] at h
    split at h
    case h_2 => simp at h
    rename_i y hy
    obtain ⟨t0, n0⟩ := y
    simp only [Option.some.injEq] at h; subst h
    obtain ⟨rfl, k2, E2, g2, f, k3⟩ := tkn_of (cx := cx) hI (cells_tmp hy rfl) (cs := [ev tm (.tmp i)]) (by simp) (by
      intro k a c ha hc hd
      cases k with
      | succ k => simp at ha
      | zero =>
        simp only [List.getElem?_cons_zero, Option.some.injEq] at ha hc
        subst ha; subst hc
        cases hn : v.noOwn with
        | true => exact .inl ⟨rfl, by have := noOwn_fp hn h1; rw [this] at h1; exact h1⟩
        | false =>
          obtain ⟨sz, rows, e⟩ := own_of hn hd h1
          refine .inr ⟨⟨sz, rows, e⟩, rfl, ?_⟩
          rw [shift_zero]
          subst e
          obtain ⟨a, cap, cs, f', e', _⟩ := h1.lies
          exact plVal_tmp hlt (by rw [cvOf_low hlt]; rfl) (by rw [e']; simp)) ht
    exact ⟨_, E2, g2, f, by simp [cellsAre], k3⟩
  · rename_i r i h
    obtain ⟨fp, h1, h2⟩ := opd_tok hI hx h
    simp only [TOk] at h1
    rcases h2 with ⟨j, e, e2, hlt, rfl⟩ | ⟨⟨y, e⟩, _⟩
    case inr => simp at e
    simp only [O.t.injEq] at e; subst e; subst e2
    obtain ⟨cs, hcs, hr⟩ := h1
    simp only [St.opv] at h
    split at h
    case h_2 => simp at h
    rename_i y hy
    obtain ⟨t0, n0⟩ := y
    simp only [Option.some.injEq] at h; subst h
    obtain ⟨rfl, k2, E2, g2, f, k3⟩ := tkn_of (cx := cx) hI (cells_tmp hy rfl) (cs := cs.toList) hr.len (by
      intro k a c ha hc hd
      obtain ⟨c1, c', c2, f1, gq, f2, e1, e2, e3, e4, _, _⟩ := hr.at ha
      have : c = c' := by rw [e1, ← e3] at hc; simpa using hc.symm
      subst this
      cases hn : a.noOwn with
      | true => exact .inl ⟨rfl, by have := noOwn_fp hn e4; rw [this] at e4; exact e4⟩
      | false =>
        refine .inr ⟨own_of hn hd e4, ha, ?_⟩
        have hcv : cvOf tm i = .agg cs := by rw [cvOf_low hlt]; exact hcs
        simp [plVal, Pl.ofTmp, shift, topVal, isBox_low hlt, hcv]
        simpa using hc) ht
    exact ⟨_, E2, g2, f, by simp [cellsAre, hcs], k3⟩
  · rename_i v y h
    split at ht
    · simp at ht
    rename_i hd
    simp only [Option.some.injEq, Prod.mk.injEq] at ht
    obtain ⟨rfl, rfl, rfl, rfl⟩ := ht
    obtain ⟨fp, h1, h2⟩ := opd_tok hI hx h
    rcases h2 with ⟨j, e, _⟩ | ⟨_, rfl⟩
    · simp at e
    simp only [TOk] at h1
    exact ⟨[ev tm x], E, g, [], by simp [cellsAre], tkn_cst hI (by simp only [RepRow]; exact ⟨_, [], [], [], rfl, rfl, h1, by simp⟩) (by simpa using hd)⟩
  · rename_i r y h
    split at ht
    · simp at ht
    rename_i hd
    simp only [Option.some.injEq, Prod.mk.injEq] at ht
    obtain ⟨rfl, rfl, rfl, rfl⟩ := ht
    obtain ⟨fp, h1, h2⟩ := opd_tok hI hx h
    rcases h2 with ⟨j, e, _⟩ | ⟨_, rfl⟩
    · simp at e
    simp only [TOk] at h1
    obtain ⟨cs, hcs, hr⟩ := h1
    exact ⟨cs.toList, E, g, [], by simp [cellsAre, hcs], tkn_cst hI hr (by simpa using hd)⟩
  · rename_i p h
    split at ht
    case h_2 => simp at ht
    rename_i v hv
    obtain ⟨fp, h1, h2⟩ := opd_tok hI hx h
    simp only [TOk] at h1
    obtain ⟨rfl, hal, hs⟩ := h1
    obtain ⟨rfl, k2, E2, g2, f, k3⟩ := tkn_of (cx := cx) hI (cells_one hv) (cs := [ev tm x]) (by simp) (by
      intro k a c ha hc hd
      cases k with
      | succ k => simp at ha
      | zero =>
        simp only [List.getElem?_cons_zero, Option.some.injEq] at ha hc
        subst ha; subst hc
        obtain ⟨e1, l, sz, rows, e2⟩ := alv_of hd
        rw [e1]
        subst e2
        have hpv := hs _ _ _ hv
        obtain ⟨c', f', q1, q2, _⟩ := cell_rep hI hv (by simp)
        rw [hpv] at q1
        obtain rfl := Option.some.inj q1
        cases hn : (V.sl l sz rows).noOwn with
        | true => exact .inl ⟨rfl, by have := noOwn_fp hn q2; rw [this] at q2; exact q2⟩
        | false =>
          refine .inr ⟨own_of hn (by simp) q2, rfl, ?_⟩
          rw [shift_zero]; exact hpv) ht
    exact ⟨_, E2, g2, f, by simp [cellsAre], k3⟩
  · rename_i p n h
    split at ht
    case h_2 => simp at ht
    rename_i q hq
    obtain ⟨fp, h1, h2⟩ := opd_tok hI hx h
    simp only [TOk] at h1
    obtain ⟨rfl, hal, cs, hcs, hsz, hs⟩ := h1
    obtain ⟨qs, fq, q1, q2, _, q4, q5⟩ := cells_rep hI hq
    have hml : (mergeRow n q).length = n.length := mergeRow_len q2
    obtain ⟨rfl, k2, E2, g2, f, k3⟩ := tkn_of (cx := cx) hI (r := mergeRow n q) (by rw [hml]; exact hq) (cs := cs.toList) (by rw [hml]; simpa using hsz) (by
      intro k a c ha hc hd
      obtain ⟨a0, b0, e1, e2, e3⟩ := mergeRow_get ha
      have hsk := hs k a0 c e1 hc
      split at e3
      · rename_i hn
        subst e3
        rw [if_pos hn] at hsk
        exact .inl ⟨hn, hsk⟩
      · rename_i hn
        rw [if_neg hn] at hsk
        subst e3
        obtain ⟨e4, l, sz, rows, e5⟩ := alv_of hd
        rw [e4]
        subst e5
        have hcell := q5 k _ e2
        have hpv := hsk _ _ _ hcell
        simp only [Pl.at] at hpv
        obtain ⟨c', f', m1, m2, _⟩ := cell_rep hI hcell (by simp)
        rw [hpv] at m1
        obtain rfl := Option.some.inj m1
        cases hn2 : (V.sl l sz rows).noOwn with
        | true => exact .inl ⟨rfl, by have := noOwn_fp hn2 m2; rw [this] at m2; exact m2⟩
        | false => exact .inr ⟨own_of hn2 (by simp) m2, e2, hpv⟩) ht
    exact ⟨_, E2, g2, f, by simp [cellsAre, hcs], k3⟩
  · rename_i p lo hi h
    split at ht
    case h_2 => simp at ht
    rename_i sz rows hc
    split at ht
    case h_2 => simp at ht
    rename_i u' hput
    simp only [Option.some.injEq, Prod.mk.injEq] at ht
    obtain ⟨rfl, rfl, rfl, rfl⟩ := ht
    obtain ⟨fp, h1, h2⟩ := opd_tok hI hx h
    simp only [TOk] at h1
    obtain ⟨rfl, hal, hs⟩ := h1
    obtain ⟨a, cap, m1, m2, m3, m4⟩ := hs _ _ _ hc
    have htk : s.takeAt cx true p [.sl .own sz rows] [.sl .own sz rows] false = some ([.sl .own sz rows], false, u', [(p.r, p.path.length)]) := by
      simp only [St.takeAt, List.any_cons, V.isDead, List.any_nil, Bool.or_false, Bool.false_eq_true, if_false, List.all_cons, V.noOwn, bne_self_eq_false, Bool.false_and, Cx.moves, Bool.true_or, if_true, deads, List.map_cons, List.map_nil, lowWith, hput]
    obtain ⟨c0, f0, w1, w2, _⟩ := cell_rep hI hc (by simp)
    rw [m1] at w1
    obtain rfl := Option.some.inj w1
    obtain ⟨_, k2, E2, g2, f, k3⟩ := tkn_of (cx := cx) hI (cells_one hc) (cs := [.slice a rows.length cap]) (by simp) (by
      intro k a' c ha hc' hd
      cases k with
      | succ k => simp at ha
      | zero =>
        simp only [List.getElem?_cons_zero, Option.some.injEq] at ha hc'
        subst ha; subst hc'
        exact .inr ⟨⟨sz, rows, rfl⟩, rfl, by rw [shift_zero]; exact m1⟩) htk
    have hrep := k3.rep
    simp only [RepRow] at hrep
    obtain ⟨c, cs', f1, f2, e1, rfl, e3, rfl, rfl⟩ := hrep
    simp only [List.cons.injEq, and_true] at e1
    subst e1
    have hpart : ∃ f', Rep E2 w β (.sl .own sz ((rows.drop lo).take (hi - lo))) (ev tm x) f' ∧ f'.Sublist f1 := by
      rw [m4]; exact e3.part m2 m3
    obtain ⟨f', n1, n2⟩ := hpart
    refine ⟨[ev tm x], E2, g2, f', by simp [cellsAre], ⟨k3.inv, { k3.fr with res := ?_ }, ?_, ?_, ?_, ?_, k3.box, by simp [V.isDead]⟩⟩
    · intro b hb
      exact k3.fr.res b (by simpa using n2.subset (by simpa using hb))
    · simp only [RepRow]; exact ⟨_, [], f', [], rfl, by simp, n1, rfl, rfl⟩
    · exact (k3.nd.sublist (by simp)).sublist n2
    · exact fun b hb => k3.own b (by simpa using n2.subset hb)
    · exact fun i b hb => k3.dis i b (by simpa using n2.subset hb)
  · simp at ht
end
end Pv

set_option linter.unusedVariables false
set_option linter.unusedSimpArgs false
namespace Pv
open Go
section
variable {P : Program} {E E2 : Env} {w w2 : World} {β β2 : Nat → Option Nat} {s s2 : St} {tm : Array Value} {g g2 : Nat → List Nat} {cx : Cx} {C : Orc}
theorem Fr.stp (hI : Inv E w β s tm g) {fts : List (List Nat)} (h : Fr E w β g E2 w2 β2 g2 fts) : Stp E w E2 w2 := by
  refine ⟨h.size, ?_, ?_, fun b _ => by rw [h.tag], h.hdr⟩
  · intro b hb hn
    obtain ⟨h1, h2⟩ := h.same b hb (fun i hi => hn (hI.own i b hi).1)
    exact ⟨h1, fun ho => hn (h2.1 ho)⟩
  · intro b hb ht
    exact (h.same b hb (fun i hi => ht (hI.own i b hi).2.1)).1
theorem Fr.kept (hI : Inv E w β s tm g) {fts : List (List Nat)} (h : Fr E w β g E2 w2 β2 g2 fts) {f : List Nat} (ho : ∀ b ∈ f, E.own b ∧ E.tag b = none ∧ b < w.heap.size) (hd : ∀ i, ∀ b ∈ f, b ∉ g i) :
    (∀ b ∈ f, w2.heap[b]? = w.heap[b]?) ∧ (∀ b ∈ f, E2.own b ∧ E2.tag b = none ∧ b < w2.heap.size) ∧ (∀ i, ∀ b ∈ f, b ∉ g2 i) ∧ (∀ b ∈ f, b ∉ fts.flatten) := by
  refine ⟨?_, ?_, ?_, ?_⟩
  · intro b hb
    exact (h.same b (ho b hb).2.2 (fun i => hd i b hb)).1
  · intro b hb
    obtain ⟨h1, h2, h3⟩ := ho b hb
    exact ⟨((h.same b h3 (fun i => hd i b hb)).2).2 h1, by rw [h.tag]; exact h2, Nat.lt_of_lt_of_le h3 h.size⟩
  · intro i b hb hg
    rcases h.sub i b hg with ⟨j, hj⟩ | hj
    · exact hd j b hb hj
    · have := (ho b hb).2.2; omega
  · intro b hb hg
    rcases h.res b hg with ⟨j, hj⟩ | hj
    · exact hd j b hb hj
    · have := (ho b hb).2.2; omega
theorem PinOk.step (h : PinOk cx w β s tm) (k : ∀ r, cx.held r = true → isBox r = true → (s2.get r).isSome → (s.get r).isSome ∧ ∀ j, topVal w2 β2 tm r j = topVal w β tm r j) : PinOk cx w2 β2 s2 tm := by
  intro p r hp
  obtain ⟨h1, h2⟩ := h p r hp
  refine ⟨h1, fun hr => ?_⟩
  obtain ⟨h3, h4⟩ := h2 hr
  refine ⟨h3, fun x hx j c hc => ?_⟩
  have hh : cx.held r = true := by
    simp only [Cx.held, List.any_eq_true, beq_iff_eq, Prod.exists]
    exact ⟨p, r, hp, rfl⟩
  obtain ⟨h5, h6⟩ := k r hh h3 (by rw [hx]; rfl)
  rw [h6]
  cases hg : s.get r with
  | none => rw [hg] at h5; simp at h5
  | some y => exact h4 y hg j c hc
theorem mkT_tok {r : List V} {ag : Bool} {t : T} {cv : Value} {cs : List Value} {f : List Nat} (h : mkT r ag = some t) (hc : cellsAre ag cv cs) (hr : RepRow E w β r cs f) : TOk E w β s tm t cv f ∧ ∀ ts, t ≠ .tup ts := by
  unfold mkT at h
  split at h
  · rename_i ha
    obtain rfl := Option.some.inj h
    simp only [cellsAre, ha, if_true] at hc
    refine ⟨?_, by simp⟩
    simp only [TOk]; exact ⟨_, hc, by simpa using hr⟩
  · rename_i ha
    split at h
    · rename_i v
      obtain rfl := Option.some.inj h
      simp only [cellsAre, ha, Bool.false_eq_true, if_false] at hc
      subst hc
      simp only [RepRow] at hr
      obtain ⟨c, cs', f1, f2, e1, rfl, h1, rfl, rfl⟩ := hr
      simp only [List.cons.injEq, and_true] at e1
      subst e1
      refine ⟨?_, by simp⟩
      simp only [TOk, List.append_nil]; exact h1
    · simp at h
theorem Tkn.out (hI : Inv E w β s tm g) {r : List V} {ag : Bool} {t : T} {cv : Value} {cs : List Value} {f : List Nat} (h : Tkn cx E w β s tm g s2 r cs E2 g2 f) (hc : cellsAre ag cv cs) (ht : mkT r ag = some t) : Out cx E w β s tm g t s2 cv w := by
  obtain ⟨k1, k2⟩ := mkT_tok (s := s2) (tm := tm) ht hc h.rep
  exact ⟨E2, β, g2, [f], h.inv, h.fr, ROk.one k2 k1 h.nd h.own h.dis, fun hp => hp.step (fun r _ hb hs => ⟨h.box r hb hs, fun _ => rfl⟩)⟩
theorem a_assign (hI : Inv E w β s tm g) {o : Oper} {res : Bool} {x : Operand} {X : O} {t : T} {M : List (Nat × Nat)} (hop : o.op = .assign x) (hx : OpdOk x X) (hev : evIns C cx s (.assign res) [X] = some (t, s2, M)) : Does P cx E w β s tm g o t s2 := by
  simp only [evIns] at hev
  split at hev
  · rename_i r k h
    simp only [Option.some.injEq, Prod.mk.injEq] at hev
    obtain ⟨rfl, rfl, rfl⟩ := hev
    exact q_move_free hI (.inr hop) hx h (.inl rfl)
  · rename_i p h
    simp only [Option.some.injEq, Prod.mk.injEq] at hev
    obtain ⟨rfl, rfl, rfl⟩ := hev
    exact q_move_free hI (.inr hop) hx h (.inl rfl)
  · split at hev
    case h_2 => simp at hev
    rename_i r ag u m ht
    split at hev
    case h_2 => simp at hev
    rename_i t' ht'
    simp only [Option.some.injEq, Prod.mk.injEq] at hev
    obtain ⟨rfl, rfl, rfl⟩ := hev
    obtain ⟨cs, E2, g2, f, h1, h2⟩ := take_ok (cx := cx) hI hx ht
    exact ⟨_, ev tm x, w, by simp [execOp, hop], .inl rfl, h2.out hI h1 ht'⟩
theorem Inv.noBox (hI : Inv E w β s tm g) {b : Nat} (h : s.get b = none) : β b = none := by
  cases hb : β b with
  | none => rfl
  | some x => have := (hI.box b x hb).2; rw [h] at this; simp at this
theorem new_box (hI : Inv E w β s tm g) (hF0 : True) {b : Nat} (hb : isBox b = true) (hn : s.get b = none) {row : List V} {cs : Array Value} {e : TypeId} {f : List Nat} (hr : RepRow E w β row cs.toList f) (hnd : f.Nodup)
    (ho : ∀ x ∈ f, E.own x ∧ E.tag x = none ∧ x < w.heap.size) (hd : ∀ i, ∀ x ∈ f, x ∉ g i) :
    Inv (E.plus w.heap.size) (pushObj w cs e) (fun i => if i = b then some w.heap.size else β i) (s.set b (.agg row, 0)) tm (fun i => if i = b then w.heap.size :: f else g i) ∧
      (∀ r, r ≠ b → isBox r = true → (s.get r).isSome → ∀ j, topVal (pushObj w cs e) (fun i => if i = b then some w.heap.size else β i) tm r j = topVal w β tm r j) := by
  have hI2 := hI.push cs e
  have hst := Stp.push E w cs e
  have hr2 : RepRow (E.plus w.heap.size) (pushObj w cs e) β row cs.toList f := hr.frame hst (fun _ _ h => h) _ _ _ (fun x hx => push_same w cs e (ho x hx).2.2)
  have htag : E.tag w.heap.size = none := hI.small _ (Nat.le_refl _)
  refine ⟨hI2.addBox hb hn hr2 (push_row w cs e (rest := []) (by simp)) (push_clean w cs e (by simp)) ?_ ?_ ?_, ?_⟩
  · rw [List.nodup_cons]
    exact ⟨fun h => by have := (ho _ h).2.2; omega, hnd⟩
  · intro x hx
    rw [push_size]
    rcases List.mem_cons.1 hx with rfl | hx
    · exact ⟨.inr rfl, htag, by omega⟩
    · obtain ⟨h1, h2, h3⟩ := ho x hx
      exact ⟨.inl h1, h2, by omega⟩
  · intro i x hx hg
    rcases List.mem_cons.1 hx with rfl | hx
    · have := (hI.own i _ hg).2.2; omega
    · exact hd i x hx hg
  · intro r hne hbr hs j
    simp only [topVal, hbr, if_true, if_neg hne]
    cases hβ : β r with
    | none => rfl
    | some blk =>
      simp only []
      cases hg : s.get r with
      | none => rw [hg] at hs; simp at hs
      | some y =>
        have := hI.roots r y.1 y.2 hg
        simp only [RootOk, hbr, if_true] at this
        obtain ⟨b', cs', f', row', q1, _, _, _, _, _, q7⟩ := this
        rw [hβ] at q1
        obtain rfl := Option.some.inj q1
        exact cell_same (push_same w cs e q7) j
theorem Fr.push (hI : Inv E w β s tm g) {b : Nat} (hb5 : b < 10000) (hn : s.get b = none) {cs : Array Value} {e : TypeId} {f : List Nat} {g0 : Nat → List Nat} (hf : ∀ x ∈ f, (∃ j, x ∈ g j)) :
    Fr E w β g (E.plus w.heap.size) (pushObj w cs e) (fun i => if i = b then some w.heap.size else β i) (fun i => if i = b then w.heap.size :: f else g i) [] := by
  refine ⟨push_wf w cs e, by rw [push_size]; omega, ?_, ?_, rfl, rfl, ?_, by simp, ?_⟩
  · intro x hx hn
    refine ⟨push_same w cs e hx, ⟨fun h => h.elim id (fun h => by omega), .inl⟩⟩
  · intro x hx h
    exact h.elim id (fun h => by omega)
  · intro i x hx
    split at hx
    · rcases List.mem_cons.1 hx with rfl | hx
      · exact .inr (Nat.le_refl _)
      · exact .inl (hf x hx)
    · exact .inl ⟨i, hx⟩
  · intro r h1
    have : r ≠ b := by rintro rfl; rcases h1 with h1 | h1 <;> omega
    simp [this]
theorem a_alloc (hI : Inv E w β s tm g) {o : Oper} {e : TypeId} {ei : TypeInfo} {z : Value} {d : Nat} {row : List V} {t : T} {M : List (Nat × Nat)} (hop : o.op = .alloc e) (hd : d < 5000) (h1 : P.info? e = some ei) (h2 : ei.zero = some z) (h3 : CellsOk row z.cells.toList)
    (hev : evIns C cx s (.alloc (5000 + d) row) [] = some (t, s2, M)) : Does P cx E w β s tm g o t s2 := by
  simp only [evIns] at hev
  split at hev
  · simp at hev
  rename_i hh
  split at hev
  case h_2 => simp at hev
  rename_i hn
  simp only [Option.some.injEq, Prod.mk.injEq] at hev
  obtain ⟨rfl, rfl, rfl⟩ := hev
  have hb : isBox (5000 + d) = true := by simp [isBox]; omega
  obtain ⟨k1, k2⟩ := new_box hI trivial hb hn (cs := z.cells) (e := e) (f := []) h3.rep (by simp) (by simp) (by simp)
  refine ⟨_, .pointer (some ⟨w.heap.size, 0, none⟩), pushObj w z.cells e, ?_, .inl rfl, _, _, _, [[]], k1, { Fr.push (g0 := g) hI (by omega) hn (by simp) with res := by simp }, ROk.one (by simp) ?_ (by simp) (by simp) (by simp), ?_⟩
  · refine exec_v (sm := Instr.alloc e true (.tuple #[])) (by simp only [execOp, hop]) ?_
    simp [Instr.alloc, run_zero w h1 h2, newVar, newRow, pushObj]
  · simp [TOk, Rep, RepP]
  · intro hp
    refine hp.step ?_
    intro r hr hbr hs
    have hne : r ≠ 5000 + d := by intro e; subst e; exact hh hr
    rw [get_set_ne _ _ (fun e => hne e.symm)] at hs
    exact ⟨hs, k2 r hne hbr hs⟩
theorem Fr.lift {fts fts2 : List (List Nat)} (h : Fr E w β g E2 w2 β2 g2 fts) (k : ∀ b ∈ fts2.flatten, (∃ j, b ∈ g j) ∨ w.heap.size ≤ b) : Fr E w β g E2 w2 β2 g2 fts2 := { h with res := k }
theorem cells_of (ag : Bool) {v : Value} {cs : List Value} (h : cellsAre ag v cs) {r : List V} {f : List Nat} (hr : RepRow E w β r cs f) (hd : r.any V.isDead = false) (hag : ag = false → r.length = 1) : v.cells = cs.toArray := by
  unfold cellsAre at h
  split at h
  · rw [h]; rfl
  · subst h
    have : ∀ a, v ≠ .agg a := by
      intro a e
      subst e
      cases r with
      | nil => simp [RepRow] at hr
      | cons x r =>
        simp only [RepRow] at hr
        obtain ⟨c, cs', f1, f2, e1, _, h1, _⟩ := hr
        simp only [List.cons.injEq] at e1
        rw [← e1.1] at h1
        have := h1.notAgg
        subst this
        simp [V.isDead] at hd
    cases v <;> first | rfl | exact absurd rfl (this _)
theorem upd_get_pin {b : Nat} {p : Nat} (h : cx.pin.any (fun y => y.2 == b && y.1 != p) = false) {q r : Nat} (hq : (q, r) ∈ cx.pin) : r = b → q = p := by
  intro e
  have := List.any_eq_false.1 h (q, r) hq
  simp only [e, beq_self_eq_true, Bool.true_and, bne_iff_ne, ne_eq, Decidable.not_not] at this
  exact this
theorem a_box (hI : Inv E w β s tm g) {o : Oper} {e : TypeId} {d : Nat} {x : Operand} {X : O} {t : T} {M : List (Nat × Nat)} (hop : o.op = .box e x) (hd : d < 5000) (hx : OpdOk x X)
    (hev : evIns C cx s (.box (5000 + d)) [X] = some (t, s2, M)) : Does P cx E w β s tm g o t s2 := by
  simp only [evIns] at hev
  split at hev
  · simp at hev
  rename_i hpin
  split at hev
  case h_2 => simp at hev
  rename_i r ag u m ht
  split at hev
  case h_2 => simp at hev
  rename_i hn
  simp only [Option.some.injEq, Prod.mk.injEq] at hev
  obtain ⟨rfl, rfl, rfl⟩ := hev
  obtain ⟨cs, E2, g2, f, h1, h2⟩ := take_ok (cx := cx) hI hx ht
  have hb : isBox (5000 + d) = true := by simp [isBox]; omega
  have hcells : (ev tm x).cells = cs.toArray := by
    refine cells_of ag h1 h2.rep h2.live ?_
    intro hag
    unfold cellsAre at h1
    rw [hag] at h1
    simp only [Bool.false_eq_true, if_false] at h1
    have := h2.rep.len
    rw [h1] at this; simpa using this.symm
  obtain ⟨k1, k2⟩ := new_box h2.inv trivial hb hn (row := r) (cs := cs.toArray) (e := e) (f := f) (by simpa using h2.rep) h2.nd h2.own h2.dis
  have hF : Fr E w β g (E2.plus w.heap.size) (pushObj w cs.toArray e) (fun i => if i = 5000 + d then some w.heap.size else β i) (fun i => if i = 5000 + d then w.heap.size :: f else g2 i) [] := by
    refine ⟨push_wf w _ e, by rw [push_size]; omega, ?_, ?_, h2.fr.tag, h2.fr.hdr, ?_, by simp, ?_⟩
    · intro b hb hnb
      obtain ⟨q1, q2⟩ := h2.fr.same b hb hnb
      exact ⟨push_same w _ e hb, ⟨fun h => q2.1 (h.elim id (fun h => by omega)), fun h => .inl (q2.2 h)⟩⟩
    · intro b hb h
      exact h2.fr.shr b hb (h.elim id (fun h => by omega))
    · intro i b hb
      split at hb
      · rcases List.mem_cons.1 hb with rfl | hb
        · exact .inr (Nat.le_refl _)
        · exact h2.fr.res b (by simpa using hb)
      · exact h2.fr.sub i b hb
    · intro r' q1
      have : r' ≠ 5000 + d := by rintro rfl; rcases q1 with q1 | q1 <;> omega
      simp [this]
  refine ⟨_, .pointer (some ⟨w.heap.size, 0, none⟩), pushObj w cs.toArray e, ?_, .inl rfl, _, _, _, [[]], k1, hF.lift (by simp), ROk.one (by simp) ?_ (by simp) (by simp) (by simp), ?_⟩
  · refine exec_v (sm := Instr.box e (ev tm x)) (by simp only [execOp, hop]) ?_
    simp [Instr.box, newVar, newRow, pushObj, hcells]
  · simp [TOk, Rep, RepP]
  · intro hp q r' hq
    obtain ⟨a1, a2⟩ := hp q r' hq
    refine ⟨a1, fun hr => ?_⟩
    obtain ⟨a3, a4⟩ := a2 hr
    refine ⟨a3, fun y hy j c hc => ?_⟩
    by_cases hrb : r' = 5000 + d
    · -- the pinned variable itself: it is laid from its own parameter
      subst hrb
      cases X with
      | c y =>
        exfalso
        apply hpin
        simp only [Cx.boxBad, List.any_eq_true, beq_iff_eq, Prod.exists]
        exact ⟨q, _, hq, rfl⟩
      | t i =>
        simp only [Bool.not_eq_true, Cx.boxBad] at hpin
        have := upd_get_pin hpin hq rfl
        subst this
        cases x with
        | tmp i' =>
          simp only [OpdOk] at hx
          obtain ⟨rfl, hlt⟩ := hx
          rw [cvOf_low hlt] at hc
          have hc' : (ev tm (.tmp i')).cells.toList[j]? = some c := hc
          rw [hcells] at hc'
          simp only [topVal, hb, if_true]
          have := push_row w cs.toArray e (c := cs) (rest := []) (by simp) j c (by simpa using hc')
          rwa [Nat.zero_add] at this
        | const _ => exact hx.elim
        | func _ => exact hx.elim
        | global _ => exact hx.elim
    · rw [get_set_ne _ _ (fun e => hrb e.symm)] at hy
      rw [k2 r' hrb a3 (by rw [hy]; rfl) j]
      have := h2.box r' a3 (by rw [hy]; rfl)
      cases hg : s.get r' with
      | none => rw [hg] at this; simp at this
      | some z => exact a4 z hg j c hc
end
end Pv

set_option linter.unusedVariables false
set_option linter.unusedSimpArgs false
namespace Pv
open Go
section
variable {P : Program} {E E2 : Env} {w w2 : World} {β β2 : Nat → Option Nat} {s s2 : St} {tm : Array Value} {g g2 : Nat → List Nat} {cx : Cx} {C : Orc}
theorem Rep.oneCell : ∀ {v : V} {c : Value} {f : List Nat}, v ≠ .dead → Rep E w β v c f → c.oneCell' = true
  | .sc x, c, f, _, h => by
    simp only [Rep] at h
    obtain ⟨rfl, h2, _⟩ := h
    cases c <;> first | rfl | simp [isSca] at h2
  | .sl .., c, f, _, h => by
    simp only [Rep] at h
    obtain ⟨a, len, cap, cs, f', rfl, _⟩ := h
    rfl
  | .ptr .., c, f, _, h => by
    simp only [Rep, RepP] at h
    obtain ⟨_, b, _, rfl⟩ := h
    rfl
  | .clo .., c, f, _, h => by
    simp only [Rep] at h
    obtain ⟨_, xs, ys, rfl, _⟩ := h
    rfl
  | .mref .., c, f, _, h => by
    simp only [Rep, RepP] at h
    obtain ⟨_, b, _, rfl⟩ := h
    rfl
  | .mp .., _, _, _, h => by simp [Rep] at h
  | .dead, _, _, h, _ => absurd rfl h
theorem RepRow.oneCells : ∀ {r : List V} {cs : List Value} {f : List Nat}, r.any V.isDead = false → RepRow E w β r cs f → ∀ c ∈ cs, c.oneCell' = true
  | [], cs, f, _, h => by simp only [RepRow] at h; simp [h.1]
  | v :: r, cs, f, hd, h => by
    simp only [RepRow] at h
    obtain ⟨c, cs', f1, f2, rfl, rfl, h1, h2⟩ := h
    simp only [List.any_cons, Bool.or_eq_false_iff] at hd
    intro x hx
    rcases List.mem_cons.1 hx with rfl | hx
    · exact h1.oneCell (by intro e; subst e; simp [V.isDead] at hd)
    · exact RepRow.oneCells hd.2 h2 x hx
theorem Clean.notFrozen {b n o : Nat} (h : Clean w b n) : w.frozen? ⟨b, o, none⟩ = false := by
  obtain ⟨c, e, h1, _⟩ := h
  simp only [World.frozen?, h1]
  simp
theorem run_storeCells : ∀ (vs : List Value) (i : Nat) (w : World) {b o n : Nat}, Clean w b n → o + i + vs.length ≤ n → (∀ v ∈ vs, v.oneCell' = true) → (storeCells ⟨b, o, none⟩ vs i).run P w = .ok () (putCells w b (o + i) vs)
  | [], i, w, b, o, n, _, _, _ => rfl
  | v :: vs, i, w, b, o, n, hc, hl, h1 => by
    simp only [List.length_cons] at hl
    have hcell : (w.cell? ⟨b, o + i, none⟩).isSome := by
      obtain ⟨c, e, h2, h3⟩ := hc
      simp only [World.cell?, h2]
      have : o + i < c.size := by omega
      simp [this]
    have hcell' : w.cell? ⟨b, o + i, none⟩ = some ((w.cell? ⟨b, o + i, none⟩).get hcell) := by simp
    simp only [storeCells, Sem.run_bind]
    rw [run_store P w _ v _ (h1 v List.mem_cons_self), add_spot rfl]
    simp only []
    rw [hcell']
    simp only [hc.notFrozen, Bool.false_eq_true, if_false, Result.andThen_ok]
    exact run_storeCells vs (i + 1) (w.setCell ⟨b, o + i, none⟩ v) (putCells_clean [v] w b (o + i) hc) (by omega) (fun v hv => h1 v (List.mem_cons_of_mem _ hv))
theorem deep_block (hI : Inv E w β s tm g) {p : Pl} {x : List V × Nat} (h : s.place p = some x) (hp : p.path ≠ []) (hb : isBox p.r = true) {b b0 o : Nat} (hβ : β p.r = some b0) (ha : plAddr w β tm p = some (b, o)) : b ≠ b0 := by
  obtain ⟨t, row, h1, h2, h3⟩ := place_some h
  obtain ⟨cs, f, k1, k2, k3⟩ := hI.row h1 h2
  rcases k3 with ⟨_, b', q1, q2, q3, _⟩ | ⟨q1, _⟩
  · rw [hβ] at q1
    obtain rfl := Option.some.inj q1
    have hnd := hI.nodup p.r
    rw [q3, List.nodup_cons] at hnd
    cases hpath : p.path with
    | nil => exact absurd hpath hp
    | cons st q =>
      rw [hpath] at h3
      obtain ⟨hv, b2, base, cs', fp', rest, m1, m2, _, _, _, _, _, m8⟩ := getRow_rep (row' := x.1) (o := x.2) k1 h3
      have hcell : ∃ v, row[p.off]? = some v ∧ v ≠ .dead := by
        obtain ⟨i, sz, o1⟩ := st
        unfold getRow at h3
        split at h3
        · rename_i sz' rows he; exact ⟨_, he, by simp⟩
        · simp at h3
      obtain ⟨v, e1, e2⟩ := hcell
      have htop := k2 p.off v e1 e2
      simp only [plAddr, hpath] at ha
      rw [htop, m1] at ha
      simp only [] at ha
      rw [m2] at ha
      simp only [Option.some.injEq, Prod.mk.injEq] at ha
      intro e
      apply hnd.1
      rw [← e, ← ha.1]
      exact m8.mem_iff.2 List.mem_cons_self
  · rw [hb] at q1; simp at q1
theorem a_store (hI : Inv E w β s tm g) {o : Oper} {res : Bool} {ty : TypeId} {ei : TypeInfo} {a x : Operand} {A X : O} {t : T} {M : List (Nat × Nat)} (hop : o.op = .store ty a x) (h1 : P.info? ty = some ei) (ha : OpdOk a A) (hx : OpdOk x X)
    (hev : evIns C cx s (.store res ei.size) [A, X] = some (t, s2, M)) : Does P cx E w β s tm g o t s2 := by
  simp only [evIns] at hev
  split at hev
  case h_2 => simp at hev
  rename_i r ag u m ht
  split at hev
  case h_2 => simp at hev
  rename_i p hp
  split at hev
  · simp at hev
  rename_i hlen
  simp only [Decidable.not_not] at hlen
  split at hev
  · simp at hev
  rename_i hheld
  split at hev
  · simp at hev
  rename_i hnp
  split at hev
  case h_2 => simp at hev
  rename_i old hold
  split at hev
  case h_2 => simp at hev
  rename_i u2 hput
  simp only [Option.some.injEq, Prod.mk.injEq] at hev
  obtain ⟨rfl, rfl, rfl⟩ := hev
  obtain ⟨cs, E2, g2, f, c1, c2⟩ := take_ok (cx := cx) hI hx ht
  obtain ⟨row', o', p1, p2, p3⟩ := cells_place hold
  obtain ⟨b, k, d1, d2, d3, d4⟩ := addr_ok c2.inv ha hp (by rw [p1]; rfl)
  have hcl : cs.length = ei.size := by rw [c2.rep.len]; exact hlen
  unfold St.put at hput
  split at hput
  case h_2 => simp at hput
  rename_i t0 v0 hg
  split at hput
  case isFalse => simp at hput
  rename_i hver
  subst hver
  split at hput
  case h_2 => simp at hput
  rename_i row hrow
  split at hput
  case h_2 => simp at hput
  rename_i row2 hset
  obtain rfl := Option.some.inj hput
  obtain ⟨t', row0, k1, k2, k3⟩ := place_some p1
  rw [hg] at k1
  simp only [Option.some.injEq, Prod.mk.injEq, and_true] at k1
  subst k1
  rw [hrow] at k2
  obtain rfl := Option.some.inj k2
  obtain ⟨b', k', q1, q2, q3, q4, fp2, q5, q6⟩ := c2.inv.store (bump := !(r.all V.isSc && old.all V.isSc)) hg hrow hset d4 (by
      intro hpp
      have : p.path.isEmpty = false := by cases hq : p.path <;> simp_all
      simp only [this, Bool.not_false, Bool.true_and, Bool.not_eq_true', Bool.not_eq_false] at hnp
      simpa using hnp) (by
      intro hb
      simp only [Bool.not_eq_false', Bool.and_eq_true] at hb
      refine ⟨hb.1, fun r' o'' hg' => ?_⟩
      rw [k3] at hg'
      simp only [Option.some.injEq, Prod.mk.injEq] at hg'
      obtain ⟨rfl, rfl⟩ := hg'
      rw [hlen, ← p3]; exact hb.2) c2.rep c2.nd c2.own c2.dis
  rw [d2] at q1
  simp only [Option.some.injEq, Prod.mk.injEq] at q1
  obtain ⟨rfl, rfl⟩ := q1
  have hcells : (ev tm x).cells = cs.toArray := by
    refine cells_of ag c1 c2.rep c2.live ?_
    intro hag
    unfold cellsAre at c1
    rw [hag] at c1
    simp only [Bool.false_eq_true, if_false] at c1
    have := c2.rep.len
    rw [c1] at this; simpa using this.symm
  have hrun : (execOp (ev tm) o).run P w = .ok .skip (putCells w b k cs) := by
    simp only [execOp, hop, Sem.run_bind, d1]
    simp only [Instr.storeAt, Instr.sureAddr, Sem.run_bind, Sem.run_pure, Result.andThen_ok]
    unfold storeVar
    rw [Sem.run_bind, run_size w h1, hcells]
    simp only [Result.andThen_ok, List.size_toArray, hcl, ne_eq, not_true_eq_false, if_false]
    rw [run_storeCells cs 0 w q2 (by omega) (RepRow.oneCells c2.live c2.rep)]
    rfl
  refine ⟨.skip, undef, putCells w b k cs, hrun, .inr ⟨rfl, rfl⟩, E2, β, _, [[]], q5, ?_, ROk.one (by simp) (by simp [TOk, Rep]) (by simp) (by simp) (by simp), ?_⟩
  · refine ⟨putCells_wf cs w b k, by rw [putCells_size]; exact Nat.le_refl _, ?_, c2.fr.shr, c2.fr.tag, c2.fr.hdr, ?_, by simp, c2.fr.ext⟩
    · intro x hx hnx
      obtain ⟨e1, e2⟩ := c2.fr.same x hx hnx
      refine ⟨putCells_other cs w b k ?_, e2⟩
      intro e
      subst e
      rcases c2.fr.sub p.r x q3 with ⟨j, hj⟩ | hj
      · exact hnx j hj
      · omega
    · intro i y hy
      split at hy
      · rcases q6 y hy with h | h
        · exact c2.fr.sub p.r y h
        · exact c2.fr.res y (by simpa using h)
      · exact c2.fr.sub i y hy
  · intro hpin
    refine hpin.step ?_
    intro r' hh hbr hs
    simp only [St.upd] at hs
    have hs1 : ((s.upd u).get r').isSome := by
      rw [get_set] at hs
      split at hs
      · rename_i e; rw [← e, hg]; rfl
      · exact hs
    refine ⟨c2.box r' hbr hs1, fun j => ?_⟩
    simp only [topVal, hbr, if_true]
    cases hβ : β r' with
    | none => rfl
    | some b0 =>
      simp only []
      have hne : b0 ≠ b := by
        by_cases hr : r' = p.r
        · subst hr
          have hpp : p.path ≠ [] := by
            intro e
            apply hheld
            rw [e]; simp [hh]
          exact fun e => deep_block c2.inv p1 hpp hbr hβ d2 e.symm
        · intro e
          subst e
          cases hg' : (s.upd u).get r' with
          | none => rw [hg'] at hs1; simp at hs1
          | some y =>
            have := c2.inv.roots r' y.1 y.2 hg'
            simp only [RootOk, hbr, if_true] at this
            obtain ⟨b2, cs', f', row', z1, _, z3, _⟩ := this
            rw [hβ] at z1
            obtain rfl := Option.some.inj z1
            exact c2.inv.disj r' p.r hr b0 (by rw [z3]; exact List.mem_cons_self) q3
      exact cell_same (putCells_other cs w b k hne) j
end
end Pv

set_option linter.unusedVariables false
set_option linter.unusedSimpArgs false
namespace Pv
open Go
section
variable {P : Program} {E E2 : Env} {w w2 : World} {β β2 : Nat → Option Nat} {s s2 : St} {tm : Array Value} {g g2 : Nat → List Nat} {cx : Cx} {C : Orc}
def RepL (E : Env) (w : World) (β : Nat → Option Nat) : List (List V) → List (List Value) → List (List Nat) → Prop
  | [], [], [] => True
  | r :: rs, c :: cs, f :: fs => RepRow E w β r c f ∧ r.any V.isDead = false ∧ RepL E w β rs cs fs
  | _, _, _ => False
structure TknL (cx : Cx) (E : Env) (w : World) (β : Nat → Option Nat) (s : St) (tm : Array Value) (g : Nat → List Nat) (s2 : St) (rs : List (List V)) (css : List (List Value)) (E2 : Env) (g2 : Nat → List Nat) (fs : List (List Nat)) : Prop where
  inv : Inv E2 w β s2 tm g2
  fr : Fr E w β g E2 w β g2 fs
  rep : RepL E2 w β rs css fs
  nd : fs.flatten.Nodup
  own : ∀ b ∈ fs.flatten, E2.own b ∧ E2.tag b = none ∧ b < w.heap.size
  dis : ∀ i, ∀ b ∈ fs.flatten, b ∉ g2 i
  box : ∀ i, isBox i = true → (s2.get i).isSome → (s.get i).isSome
theorem takeL_ok {s2 : St} : ∀ {xs : List Operand} {Xs : List O} {rs : List (List V)} {m : List (Nat × Nat)} {E : Env} {s : St} {g : Nat → List Nat}, Inv E w β s tm g → OpdsOk xs Xs → takeL s cx Xs = some (rs, s2, m) →
    ∃ E2 g2 fs, TknL cx E w β s tm g s2 rs (xs.map fun x => (ev tm x).cells.toList) E2 g2 fs
  | [], [], rs, m, E, s, g, hI, _, h => by
    simp only [takeL, Option.some.injEq, Prod.mk.injEq] at h
    obtain ⟨rfl, rfl, rfl⟩ := h
    exact ⟨E, g, [], hI, Fr.refl, by simp [RepL], by simp, by simp, by simp, fun _ _ h => h⟩
  | x :: xs, X :: Xs, rs, m, E, s, g, hI, ho, h => by
    simp only [OpdsOk] at ho
    simp only [takeL] at h
    split at h
    case h_2 => simp at h
    rename_i r ag u m0 ht
    split at h
    case h_2 => simp at h
    rename_i rs' s' m' hts
    simp only [Option.some.injEq, Prod.mk.injEq] at h
    obtain ⟨rfl, rfl, rfl⟩ := h
    obtain ⟨cs, E2, g2, f, c1, c2⟩ := take_ok (cx := cx) hI ho.1 ht
    obtain ⟨E3, g3, fs, d⟩ := takeL_ok c2.inv ho.2 hts
    obtain ⟨_, k2, k3, k4⟩ := d.fr.kept c2.inv c2.own c2.dis
    have hcells : (ev tm x).cells = cs.toArray := by
      refine cells_of ag c1 c2.rep c2.live ?_
      intro hag
      unfold cellsAre at c1
      rw [hag] at c1
      simp only [Bool.false_eq_true, if_false] at c1
      have := c2.rep.len
      rw [c1] at this; simpa using this.symm
    refine ⟨E3, g3, f :: fs, d.inv, (c2.fr.trans d.fr).lift ?_, ?_, ?_, ?_, ?_, fun i hi hs => c2.box i hi (d.box i hi hs)⟩
    · intro b hb
      rw [List.flatten_cons] at hb
      rcases List.mem_append.1 hb with hb | hb
      · exact c2.fr.res b (by simpa using hb)
      · exact (c2.fr.trans d.fr).res b hb
    · simp only [List.map_cons, RepL, hcells]
      exact ⟨c2.rep.frame (d.fr.stp c2.inv) (fun _ _ h => h) _ _ _ (fun _ _ => rfl), c2.live, d.rep⟩
    · rw [List.flatten_cons, List.nodup_append]
      exact ⟨c2.nd, d.nd, fun a ha b hb e => k4 a ha (by rw [e]; exact hb)⟩
    · intro b hb
      rw [List.flatten_cons] at hb
      rcases List.mem_append.1 hb with hb | hb
      · exact k2 b hb
      · exact d.own b hb
    · intro i b hb
      rw [List.flatten_cons] at hb
      rcases List.mem_append.1 hb with hb | hb
      · exact k3 i b hb
      · exact d.dis i b hb
  | [], _ :: _, _, _, _, _, _, _, ho, _ => ho.elim
  | _ :: _, [], _, _, _, _, _, _, ho, _ => ho.elim
def spliceC (cells : List Value) (off : Nat) (xs : List Value) : List Value := cells.take off ++ xs ++ cells.drop (off + xs.length)
theorem spliceC_len {cells xs : List Value} {off : Nat} (h : off + xs.length ≤ cells.length) : (spliceC cells off xs).length = cells.length := by simp [spliceC]; omega
theorem splice_rep {zero r : List V} {cs c : List Value} {fz f : List Nat} {off : Nat} (hz : RepRow E w β zero cs fz) (hr : RepRow E w β r c f) (hl : off + r.length ≤ zero.length) :
    ∃ fz', RepRow E w β (splice zero off r) (spliceC cs off c) (fz' ++ []) ∧ ∃ fA fB fC, fz = fA ++ fB ++ fC ∧ fz' = fA ++ f ++ fC := by
  obtain ⟨cA, cS, cB, fA, fS, fB, rfl, rfl, h1, h2, h3, h4, h5⟩ := splice_split hz hl
  refine ⟨fA ++ f ++ fB, ?_, fA, fS, fB, rfl, rfl⟩
  have hc : spliceC (cA ++ cS ++ cB) off c = cA ++ c ++ cB := by
    simp only [spliceC]
    have e1 : (cA ++ cS ++ cB).take off = cA := by rw [List.append_assoc, List.take_left' h1]
    have e2 : (cA ++ cS ++ cB).drop (off + c.length) = cB := by rw [List.drop_left' (by rw [List.length_append, h1, h2, hr.len])]
    rw [e1, e2]
  rw [hc, List.append_nil]
  exact RepRow.append (RepRow.append h3 hr) h5
theorem spliceC_get {l xs : List Value} {off j : Nat} (h : off + xs.length ≤ l.length) : (spliceC l off xs)[j]? = if j < off then l[j]? else if j < off + xs.length then xs[j - off]? else l[j]? := by
  simp only [spliceC]
  by_cases h1 : j < off
  · rw [if_pos h1, List.getElem?_append_left (by simp; omega), List.getElem?_append_left (by simp; omega), List.getElem?_take_of_lt h1]
  · rw [if_neg h1]
    by_cases h2 : j < off + xs.length
    · rw [if_pos h2, List.getElem?_append_left (by simp; omega), List.getElem?_append_right (by simp; omega)]
      rw [List.length_take, Nat.min_eq_left (by omega)]
    · rw [if_neg h2, List.getElem?_append_right (by simp; omega), List.getElem?_drop]
      rw [List.length_append, List.length_take, Nat.min_eq_left (by omega)]
      rw [show off + xs.length + (j - (off + xs.length)) = j from by omega]
theorem foldl_set (xs : List Value) : ∀ (cells : Array Value) (off k : Nat), off + k + xs.length ≤ cells.size →
    ((xs.zipIdx k).foldl (fun (cs : Array Value) (x : Value × Nat) => cs.setIfInBounds (off + x.2) x.1) cells).toList = spliceC cells.toList (off + k) xs := by
  induction xs with
  | nil => intro cells off k h; simp [spliceC]
  | cons x xs ih =>
    intro cells off k h
    simp only [List.length_cons] at h
    rw [List.zipIdx_cons, List.foldl_cons, ih _ off (k + 1) (by simp; omega)]
    apply List.ext_getElem?
    intro j
    rw [spliceC_get (by simp; omega), spliceC_get (by simp; omega)]
    simp only [Array.toList_setIfInBounds, List.length_cons]
    by_cases h1 : j < off + k
    · rw [if_pos (by omega), if_pos h1, List.getElem?_set_ne (by omega)]
    · rw [if_neg h1]
      by_cases h2 : j = off + k
      · subst h2
        rw [if_pos (by omega), if_pos (by omega), List.getElem?_set_self (by simp; omega)]
        simp
      · rw [if_neg (by omega)]
        by_cases h3 : j < off + (k + 1) + xs.length
        · rw [if_pos h3, if_pos (by omega), show j - (off + k) = (j - (off + (k + 1))) + 1 from by omega, List.getElem?_cons_succ]
        · rw [if_neg h3, if_neg (by omega), List.getElem?_set_ne (by omega)]
theorem fill_ok {place : Nat → Option (Nat × Nat)} : ∀ (ps : List (Nat × Value)) (pos : List (Nat × Nat)) (rs : List (List V)) (css : List (List Value)) (fs : List (List Nat)) (zero row : List V) (cells : Array Value) (fz : List Nat),
    RepRow E w β zero cells.toList fz → RepL E w β rs css fs → ps.map (fun p => p.2.cells.toList) = css → ps.map (fun p => place p.1) = pos.map some → buildRow zero pos rs = some row →
    ∃ cells2 f2, Instr.fill place cells ps = some cells2 ∧ RepRow E w β row cells2.toList f2 ∧ ∀ L : List Nat, (fz ++ fs.flatten ++ L).Nodup → f2.Nodup ∧ ∀ b ∈ f2, b ∈ fz ++ fs.flatten
  | [], [], [], [], [], zero, row, cells, fz, hz, _, _, _, hb => by
    simp only [buildRow, Option.some.injEq] at hb
    subst hb
    exact ⟨cells, fz, rfl, hz, fun L h => ⟨by simp at h; exact (List.nodup_append.1 h).1, by simp⟩⟩
  | (i, v) :: ps, (off, n) :: pos, r :: rs, c :: css, f :: fs, zero, row, cells, fz, hz, hr, hc, hp, hb => by
    simp only [buildRow] at hb
    split at hb
    case isFalse => simp at hb
    rename_i hl
    obtain ⟨hl1, hl2⟩ := hl
    simp only [RepL] at hr
    simp only [List.map_cons, List.cons.injEq] at hc hp
    obtain ⟨fz', e1, fA, fB, fC, e2, e3⟩ := splice_rep (off := off) hz hr.1 (by omega)
    have hcz : cells.toList.length = zero.length := hz.len
    have hcn : v.cells.size = n := by
      have := hr.1.len
      rw [← hc.1] at this; simpa [hl1] using this
    have hfold := foldl_set v.cells.toList cells off 0 (by simp at hcz ⊢; omega)
    have hcells : ((v.cells.zipIdx.foldl (fun cs (x : Value × Nat) => cs.setIfInBounds (off + x.2) x.1) cells)).toList = spliceC cells.toList off c := by
      rw [← Array.foldl_toList, Array.toList_zipIdx]
      rw [Nat.add_zero] at hfold
      rw [← hc.1]; exact hfold
    obtain ⟨cells2, f2, k1, k2, k3⟩ := fill_ok ps pos rs css fs _ row _ _ (by rw [hcells]; exact e1) hr.2.2 hc.2 hp.2 hb
    refine ⟨cells2, f2, ?_, k2, ?_⟩
    · simp only [Instr.fill, hp.1]
      rw [if_neg (by simp at hcz ⊢; omega)]
      exact k1
    · intro L hL
      subst e2; subst e3
      have hL' : (fA ++ f ++ fC ++ [] ++ fs.flatten ++ (fB ++ L)).Nodup := by
        refine (List.Perm.nodup_iff ?_).1 hL
        simp only [List.flatten_cons, List.append_nil, List.append_assoc]
        rw [List.perm_iff_count]
        intro a
        simp only [List.count_append]
        omega
      obtain ⟨m1, m2⟩ := k3 _ hL'
      refine ⟨m1, fun b hb => ?_⟩
      have := m2 b hb
      simp only [List.flatten_cons, List.append_nil, List.mem_append] at this ⊢
      rcases this with ((h | h) | h) | h
      · exact .inl (.inl (.inl h))
      · exact .inr (.inl h)
      · exact .inl (.inr h)
      · exact .inr (.inr h)
  | [], [], [], [], _ :: _, _, _, _, _, _, h, _, _, _ => by simp [RepL] at h
  | [], [], _ :: _, _, _, _, _, _, _, _, _, _, _, h => by simp [buildRow] at h
  | [], _ :: _, _, _, _, _, _, _, _, _, _, _, h, _ => by simp at h
  | _ :: _, [], _, _, _, _, _, _, _, _, _, _, h, _ => by simp at h
  | [], [], [], _ :: _, _, _, _, _, _, _, _, h, _, _ => by simp at h
  | _ :: _, _ :: _, [], _, _, _, _, _, _, _, _, _, _, h => by simp [buildRow] at h
  | _ :: _, _ :: _, _ :: _, [], _, _, _, _, _, _, _, h, _, _ => by simp at h
  | _ :: _, _ :: _, _ :: _, _ :: _, [], _, _, _, _, _, h, _, _, _ => by simp [RepL] at h
end
end Pv

set_option linter.unusedVariables false
set_option linter.unusedSimpArgs false
namespace Pv
open Go
section
variable {P : Program} {E E2 : Env} {w w2 : World} {β β2 : Nat → Option Nat} {s s2 : St} {tm : Array Value} {g g2 : Nat → List Nat} {cx : Cx} {C : Orc}
theorem TknL.out (hI : Inv E w β s tm g) {rs : List (List V)} {css : List (List Value)} {fs : List (List Nat)} {t : T} {cv : Value} {f : List Nat} (h : TknL cx E w β s tm g s2 rs css E2 g2 fs) (ht : ∀ ts, t ≠ .tup ts) (k : TOk E2 w β s2 tm t cv f) (hn : f.Nodup) (hs : ∀ b ∈ f, b ∈ fs.flatten) :
    Out cx E w β s tm g t s2 cv w :=
  ⟨E2, β, g2, [f], h.inv, h.fr.lift (fun b hb => h.fr.res b (hs b (by simpa using hb))), ROk.one ht k hn (fun b hb => h.own b (hs b hb)) (fun i b hb => h.dis i b (hs b hb)), fun hp => hp.step (fun r _ hb hs => ⟨h.box r hb hs, fun _ => rfl⟩)⟩
theorem ev_parts (parts : Array (Nat × Operand)) : (parts.map fun (i, x) => (i, ev tm x)).toList = parts.toList.map fun p => (p.1, ev tm p.2) := by simp
theorem a_build (hI : Inv E w β s tm g) {o : Oper} {ty : TypeId} {fields : Array Field} {ti : TypeInfo} {z : Value} {zero : List V} {places : Array (Nat × Nat)} {pos : List (Nat × Nat)} {parts : Array (Nat × Operand)} {Xs : List O} {t : T} {M : List (Nat × Nat)}
    (hop : o.op = .build ty parts) (h1 : P.underlying ty = some (.struct fields)) (h2 : P.info? ty = some ti) (h3 : ti.zero = some z) (h4 : CellsOk zero z.cells.toList)
    (h5 : ∀ w, Sem.run P (fields.mapM fun (f : Field) => (do pure (f.offset, ← Go.sizeOf f.type) : Sem (Nat × Nat))) w = .ok places w) (h6 : parts.toList.map (fun p => places[p.1]?) = pos.map some) (hx : OpdsOk (parts.toList.map (·.2)) Xs)
    (hev : evIns C cx s (.build zero pos) Xs = some (t, s2, M)) : Does P cx E w β s tm g o t s2 := by
  simp only [evIns] at hev
  split at hev
  case h_2 => simp at hev
  rename_i rs s' m ht
  split at hev
  case h_2 => simp at hev
  rename_i row hb
  simp only [Option.some.injEq, Prod.mk.injEq] at hev
  obtain ⟨rfl, rfl, rfl⟩ := hev
  obtain ⟨E2, g2, fs, k⟩ := takeL_ok (cx := cx) hI hx ht
  obtain ⟨cells2, f2, q1, q2, q3⟩ := fill_ok (E := E2) (w := w) (β := β) (place := (places[·]?)) (parts.toList.map fun p => (p.1, ev tm p.2)) pos rs _ fs zero row z.cells [] h4.rep k.rep (by simp) (by rw [List.map_map]; exact h6) hb
  obtain ⟨q4, q5⟩ := q3 [] (by simpa using k.nd)
  refine ⟨_, .agg cells2, w, ?_, .inl rfl, k.out hI (by simp) ?_ q4 (by simpa using q5)⟩
  · refine exec_v (sm := Instr.build ty (parts.map fun (i, x) => (i, ev tm x))) (by simp only [execOp, hop]) ?_
    unfold Instr.build
    rw [Sem.run_bind, run_zero w h2 h3]
    simp only [Result.andThen_ok]
    rw [Sem.run_bind, run_underlying h1]
    simp only [Result.andThen_ok]
    rw [Sem.run_bind, h5 w]
    simp only [Result.andThen_ok, ev_parts, q1]
    rfl
  · simp only [TOk]; exact ⟨_, rfl, q2⟩
theorem new_row (hI : Inv E w β s tm g) {sz n cap : Nat} {rows : List (List V)} {cs : Array Value} {e : TypeId} {c0 rest : List Value} {f : List Nat} (hr : RepRows E w β sz rows c0 f) (hcs : cs.toList = c0 ++ rest) (hn : rows.length = n) (hc : n ≤ cap) (hcap : cs.size = cap * sz)
    (hnd : f.Nodup) (ho : ∀ x ∈ f, E.own x ∧ E.tag x = none ∧ x < w.heap.size) (hd : ∀ i, ∀ x ∈ f, x ∉ g i) :
    Inv (E.plus w.heap.size) (pushObj w cs e) β s tm g ∧ Rep (E.plus w.heap.size) (pushObj w cs e) β (.sl .own sz rows) (.slice (some ⟨w.heap.size, 0, none⟩) n cap) (w.heap.size :: f) ∧ (w.heap.size :: f).Nodup ∧
      (∀ x ∈ w.heap.size :: f, (E.plus w.heap.size).own x ∧ (E.plus w.heap.size).tag x = none ∧ x < (pushObj w cs e).heap.size) ∧ (∀ i, ∀ x ∈ w.heap.size :: f, x ∉ g i) := by
  have hst := Stp.push E w cs e
  have hr2 : RepRows (E.plus w.heap.size) (pushObj w cs e) β sz rows c0 f := hr.frame hst (fun _ _ h => h) _ _ _ _ (fun x hx => push_same w cs e (ho x hx).2.2)
  refine ⟨hI.push cs e, ?_, ?_, ?_, ?_⟩
  · simp only [Rep]
    refine ⟨some ⟨w.heap.size, 0, none⟩, n, cap, c0, f, rfl, hn, hc, hr2, ?_, by simp⟩
    simp only [SlOk]
    refine ⟨trivial, push_row w cs e hcs, by rw [push_size]; omega, .inl ⟨trivial, trivial, ?_⟩⟩
    exact push_clean w cs e (by omega)
  · rw [List.nodup_cons]; exact ⟨fun h => by have := (ho _ h).2.2; omega, hnd⟩
  · intro x hx
    rw [push_size]
    rcases List.mem_cons.1 hx with rfl | hx
    · exact ⟨.inr rfl, hI.small _ (Nat.le_refl _), by omega⟩
    · obtain ⟨h1, h2, h3⟩ := ho x hx
      exact ⟨.inl h1, h2, by omega⟩
  · intro i x hx hg
    rcases List.mem_cons.1 hx with rfl | hx
    · have := (hI.own i _ hg).2.2; omega
    · exact hd i x hx hg
theorem Fr.thenPush {fts : List (List Nat)} (h : Fr E w β g E2 w β g2 fts) {cs : Array Value} {e : TypeId} {f : List Nat} (hf : ∀ x ∈ f, (∃ j, x ∈ g j) ∨ w.heap.size ≤ x) : Fr E w β g (E2.plus w.heap.size) (pushObj w cs e) β g2 [w.heap.size :: f] := by
  refine ⟨push_wf w cs e, by rw [push_size]; omega, ?_, ?_, h.tag, h.hdr, h.sub, ?_, h.ext⟩
  · intro b hb hnb
    obtain ⟨q1, q2⟩ := h.same b hb hnb
    exact ⟨push_same w _ e hb, ⟨fun h => q2.1 (h.elim id (fun h => by omega)), fun h => .inl (q2.2 h)⟩⟩
  · intro b hb h'
    exact h.shr b hb (h'.elim id (fun h => by omega))
  · intro b hb
    rw [List.flatten_cons, List.flatten_nil, List.append_nil] at hb
    rcases List.mem_cons.1 hb with rfl | hb
    · exact .inr (Nat.le_refl _)
    · exact hf b hb
theorem pin_push (hI : Inv E w β s tm g) {cs : Array Value} {e : TypeId} (hb : ∀ i, isBox i = true → (s2.get i).isSome → (s.get i).isSome) (hp : PinOk cx w β s tm) : PinOk cx (pushObj w cs e) β s2 tm := by
  refine hp.step ?_
  intro r _ hbr hs
  have hs' := hb r hbr hs
  refine ⟨hs', fun j => ?_⟩
  simp only [topVal, hbr, if_true]
  cases hβ : β r with
  | none => rfl
  | some blk =>
    simp only []
    cases hg : s.get r with
    | none => rw [hg] at hs'; simp at hs'
    | some y =>
      have := hI.roots r y.1 y.2 hg
      simp only [RootOk, hbr, if_true] at this
      obtain ⟨b', cs', f', row', q1, _, _, _, _, _, q7⟩ := this
      rw [hβ] at q1
      obtain rfl := Option.some.inj q1
      exact cell_same (push_same w cs e q7) j
end
end Pv

set_option linter.unusedVariables false
set_option linter.unusedSimpArgs false
namespace Pv
open Go
theorem rep_get (l : List Value) : ∀ (n i : Nat), i < n * l.length → (List.replicate n l).flatten[i]? = l[i % l.length]?
  | 0, i, h => by simp at h
  | n + 1, i, h => by
    rw [List.replicate_succ, List.flatten_cons]
    by_cases h1 : i < l.length
    · rw [List.getElem?_append_left h1, Nat.mod_eq_of_lt h1]
    · rw [List.getElem?_append_right (by omega), rep_get l n (i - l.length) (by rw [Nat.succ_mul] at h; omega), ← Nat.mod_eq_sub_mod (by omega)]
theorem zeros_list (z : Array Value) (n : Nat) : ((Array.range (n * z.size)).map (fun i => z[i % z.size]!)).toList = (List.replicate n z.toList).flatten := by
  apply List.ext_getElem?
  intro i
  by_cases h : i < n * z.size
  · rw [rep_get z.toList n i (by simpa using h)]
    have hz : 0 < z.size := by
      rcases Nat.eq_zero_or_pos z.size with h0 | h0
      · rw [h0] at h; simp at h
      · exact h0
    have hm : i % z.size < z.size := Nat.mod_lt _ hz
    simp [h, hm]
  · rw [List.getElem?_eq_none (by simp; omega), List.getElem?_eq_none (by simp; omega)]
section
variable {P : Program} {E E2 : Env} {w w2 : World} {β β2 : Nat → Option Nat} {s s2 : St} {tm : Array Value} {g g2 : Nat → List Nat} {cx : Cx} {C : Orc}
theorem CellsOk.noPtr : ∀ {r : List V} {c : List Value}, CellsOk r c → r.all V.noPtr = true
  | [], [], _ => rfl
  | a :: r, b :: c, h => by
    simp only [CellsOk] at h
    simp only [List.all_cons, Bool.and_eq_true]
    refine ⟨?_, h.2.noPtr⟩
    cases a <;> first | rfl | exact h.1.elim
  | [], _ :: _, h => h.elim
  | _ :: _, [], h => h.elim
theorem CellsOk.len : ∀ {r : List V} {c : List Value}, CellsOk r c → c.length = r.length
  | [], [], _ => rfl
  | a :: r, b :: c, h => by simp only [CellsOk] at h; simp [h.2.len]
  | [], _ :: _, h => h.elim
  | _ :: _, [], h => h.elim
theorem repZeros {zero : List V} {c : List Value} (h : CellsOk zero c) : ∀ (n : Nat), RepRow E w β (List.replicate n zero).flatten (List.replicate n c).flatten []
  | 0 => by simp [RepRow]
  | n + 1 => by
    simp only [List.replicate_succ, List.flatten_cons]
    exact RepRow.append (f := []) (g := []) h.rep (repZeros h n)
theorem rows_of_flat {sz : Nat} : ∀ {rows : List (List V)} {cs : List Value} {f : List Nat}, (∀ r ∈ rows, r.length = sz ∧ r.all V.noPtr = true) → RepRow E w β rows.flatten cs f → RepRows E w β sz rows cs f
  | [], cs, f, _, h => by simpa [RepRow, RepRows] using h
  | r :: rows, cs, f, hr, h => by
    rw [List.flatten_cons] at h
    obtain ⟨c, d, f1, f2, rfl, rfl, h1, h2⟩ := h.split
    simp only [RepRows]
    exact ⟨c, d, f1, f2, rfl, rfl, (hr r List.mem_cons_self).1, (hr r List.mem_cons_self).2, h1, rows_of_flat (fun x hx => hr x (List.mem_cons_of_mem _ hx)) h2⟩
theorem flat_len {sz : Nat} : ∀ {rows : List (List V)}, (∀ r ∈ rows, r.length = sz) → rows.flatten.length = rows.length * sz
  | [], _ => by simp
  | r :: rows, h => by
    rw [List.flatten_cons, List.length_append, flat_len (fun x hx => h x (List.mem_cons_of_mem _ hx)), h r List.mem_cons_self, List.length_cons, Nat.succ_mul]; omega
theorem set_flat {sz : Nat} {r : List V} (hr : r.length = sz) : ∀ {rows : List (List V)} {i : Nat}, (∀ r ∈ rows, r.length = sz) → i < rows.length → (rows.set i r).flatten = splice rows.flatten (i * sz) r
  | [], i, _, h => by simp at h
  | a :: rows, 0, h, _ => by
    have ha := h a List.mem_cons_self
    simp only [List.set_cons_zero, List.flatten_cons, splice, Nat.zero_mul, List.take_zero, List.nil_append, Nat.zero_add]
    rw [List.drop_left' (by omega)]
  | a :: rows, i + 1, h, hi => by
    have ha := h a List.mem_cons_self
    simp only [List.set_cons_succ, List.flatten_cons]
    rw [set_flat hr (fun x hx => h x (List.mem_cons_of_mem _ hx)) (by simpa using hi)]
    simp only [splice]
    rw [show (i + 1) * sz = a.length + i * sz from by rw [Nat.succ_mul]; omega, List.take_length_add_append, Nat.add_assoc, List.drop_length_add_append]
    simp
theorem buildRows_flat {sz : Nat} : ∀ {parts : List Nat} {rs acc q : List (List V)}, (∀ r ∈ acc, r.length = sz) → (∀ r ∈ rs, r.length = sz) → buildRows acc parts rs = some q → buildRow acc.flatten (parts.map fun i => (i * sz, sz)) rs = some q.flatten ∧ q.length = acc.length ∧ ∀ r ∈ q, r ∈ acc ∨ r ∈ rs
  | [], [], acc, q, _, _, h => by
    simp only [buildRows, Option.some.injEq] at h
    subst h
    exact ⟨rfl, rfl, fun r hr => .inl hr⟩
  | i :: parts, r :: rs, acc, q, ha, hr, h => by
    simp only [buildRows] at h
    split at h
    case isFalse => simp at h
    rename_i hi
    have hrl := hr r List.mem_cons_self
    obtain ⟨k1, k2, k3⟩ := buildRows_flat (acc := acc.set i r) (fun x hx => by
      rcases List.mem_or_eq_of_mem_set hx with h | rfl
      · exact ha x h
      · exact hrl) (fun x hx => hr x (List.mem_cons_of_mem _ hx)) h
    refine ⟨?_, by rw [k2]; simp, ?_⟩
    · simp only [List.map_cons, buildRow]
      rw [if_pos ⟨hrl, by rw [flat_len ha, ← Nat.succ_mul]; exact Nat.mul_le_mul_right _ hi⟩, ← set_flat hrl ha hi]
      exact k1
    · intro x hx
      rcases k3 x hx with h | h
      · rcases List.mem_or_eq_of_mem_set h with h | rfl
        · exact .inl h
        · exact .inr List.mem_cons_self
      · exact .inr (List.mem_cons_of_mem _ h)
  | [], _ :: _, _, _, _, _, h => by simp [buildRows] at h
  | _ :: _, [], _, _, _, _, h => by simp [buildRows] at h
theorem a_bsl (hI : Inv E w β s tm g) {o : Oper} {ty e : TypeId} {ei : TypeInfo} {z : Value} {zero : List V} {len : Nat} {parts : Array (Nat × Operand)} {Xs : List O} {t : T} {M : List (Nat × Nat)}
    (hop : o.op = .buildSlice ty len parts) (h1 : P.underlying ty = some (.slice e)) (h2 : P.info? e = some ei) (h3 : ei.zero = some z) (h4 : CellsOk zero z.cells.toList) (h5 : len * ei.size ≤ 2 ^ 24) (hx : OpdsOk (parts.toList.map (·.2)) Xs)
    (hev : evIns C cx s (.bsl ei.size zero len (parts.toList.map (·.1))) Xs = some (t, s2, M)) : Does P cx E w β s tm g o t s2 := by
  simp only [evIns] at hev
  split at hev
  case h_2 => simp at hev
  rename_i rs s' m ht
  split at hev
  case isFalse => simp at hev
  rename_i hch
  split at hev
  case h_2 => simp at hev
  rename_i q hb
  simp only [Option.some.injEq, Prod.mk.injEq] at hev
  obtain ⟨rfl, rfl, rfl⟩ := hev
  simp only [Bool.and_eq_true, decide_eq_true_eq, List.all_eq_true] at hch
  obtain ⟨hrs, hzl⟩ := hch
  have hzs : z.cells.size = ei.size := by have := h4.len; simpa [hzl] using this
  obtain ⟨E2, g2, fs, k⟩ := takeL_ok (cx := cx) hI hx ht
  obtain ⟨b1, b2, b3⟩ := buildRows_flat (sz := ei.size) (fun r hr => by rw [(List.mem_replicate.1 hr).2]; exact hzl) (fun r hr => (hrs r hr).1) hb
  have hq : ∀ r ∈ q, r.length = ei.size ∧ r.all V.noPtr = true := by
    intro r hr
    rcases b3 r hr with h | h
    · rw [(List.mem_replicate.1 h).2]; exact ⟨hzl, h4.noPtr⟩
    · exact ⟨(hrs r h).1, by rw [List.all_eq_true]; exact fun x hx => (hrs r h).2 x hx⟩
  obtain ⟨cells2, f2, q1, q2, q3⟩ := fill_ok (E := E2) (w := w) (β := β) (place := fun i => some (i * ei.size, ei.size)) (parts.toList.map fun p => (p.1, ev tm p.2)) _ rs _ fs _ q.flatten ((Array.range (len * z.cells.size)).map (fun i => z.cells[i % z.cells.size]!)) []
    (by rw [zeros_list]; exact repZeros h4 len) k.rep (by simp) (by rw [List.map_map, List.map_map, List.map_map]; rfl) b1
  obtain ⟨q4, q5⟩ := q3 [] (by simpa using k.nd)
  have hlq : q.length = len := by rw [b2]; simp
  have hcs : cells2.size = len * ei.size := by
    have := q2.len
    rw [flat_len (fun r hr => (hq r hr).1), hlq] at this; simpa using this
  obtain ⟨n1, n2, n3, n4, n5⟩ := new_row (e := e) (cs := cells2) (rest := []) k.inv (rows_of_flat hq q2) (by simp) hlq (Nat.le_refl _) hcs q4 (fun b hb => k.own b (by simpa using q5 b hb)) (fun i b hb => k.dis i b (by simpa using q5 b hb))
  refine ⟨_, .slice (some ⟨w.heap.size, 0, none⟩) len len, pushObj w cells2 e, ?_, .inl rfl, _, β, g2, [w.heap.size :: f2], n1, k.fr.thenPush (fun b hb => k.fr.res b (by simpa using q5 b hb)), ROk.one (by simp) n2 n3 n4 n5, pin_push hI k.box⟩
  refine exec_v (sm := Instr.buildSlice ty len (parts.map fun (i, x) => (i, ev tm x))) (by simp only [execOp, hop]) ?_
  unfold Instr.buildSlice
  rw [Sem.run_bind, run_underlying h1]
  simp only [Result.andThen_ok]
  rw [Sem.run_bind, run_size w h2]
  simp only [Result.andThen_ok]
  rw [if_neg (by omega)]
  by_cases h0 : len * ei.size = 0
  · have hr0 : (Array.range (len * ei.size)).map (fun x => (#[] : Array Value)[x % (#[] : Array Value).size]!) = (Array.range (len * z.cells.size)).map (fun i => z.cells[i % z.cells.size]!) := by
      rw [hzs, h0]; simp
    rw [if_pos h0, Sem.run_bind, Sem.run_pure, Result.andThen_ok, hr0, ev_parts, q1]
    rfl
  · have hr1 : (Array.range (len * ei.size)).map (fun x => z.cells[x % z.cells.size]!) = (Array.range (len * z.cells.size)).map (fun i => z.cells[i % z.cells.size]!) := by rw [hzs]
    rw [if_neg h0, Sem.run_bind, run_zero w h2 h3, Result.andThen_ok, Sem.run_bind, Sem.run_pure, Result.andThen_ok, hr1, ev_parts, q1]
    rfl
theorem wrap_small {a : Int} (h0 : 0 ≤ a) (h1 : a < 2 ^ 63) : IntKind.i64.wrap a = a := by
  simp [IntKind.wrap, IntKind.bits, IntKind.signed]
  omega
theorem a_mks (hI : Inv E w β s tm g) {o : Oper} {ty e : TypeId} {ei : TypeInfo} {z : Value} {zero : List V} {l c : Operand} {L L2 : O} {t : T} {M : List (Nat × Nat)}
    (hop : o.op = .makeSlice ty l c) (h1 : P.underlying ty = some (.slice e)) (h2 : P.info? e = some ei) (h3 : ei.zero = some z) (h4 : CellsOk zero z.cells.toList) (h5 : ei.bytes ≠ 0) (hl : OpdOk l L) (hc : OpdOk c L2)
    (hev : evIns C cx s (.mks ei.size zero ei.bytes) [L, L2] = some (t, s2, M)) : Does P cx E w β s tm g o t s2 := by
  simp only [evIns] at hev
  split at hev
  case h_2 => simp at hev
  rename_i a b ha hb
  split at hev
  case isFalse => simp at hev
  rename_i hch
  obtain ⟨rfl, h0, hby, hzl⟩ := hch
  simp only [Option.some.injEq, Prod.mk.injEq] at hev
  obtain ⟨rfl, rfl, rfl⟩ := hev
  obtain ⟨k1, e1⟩ := opd_int hI hl ha
  obtain ⟨k2, e2⟩ := opd_int hI hc hb
  have hzs : z.cells.size = ei.size := by have := h4.len; simpa [hzl] using this
  have hle : a ≤ 2 ^ 47 := by
    have h1b : (1 : Int) ≤ ei.bytes := by omega
    have := Int.mul_le_mul_of_nonneg_left h1b h0
    omega
  have hw : IntKind.i64.wrap a = a := wrap_small h0 (by omega)
  have hcs : ((Array.range (a.toNat * z.cells.size)).map (fun i => z.cells[i % z.cells.size]!)).size = a.toNat * ei.size := by simp [hzs]
  obtain ⟨n1, n2, n3, n4, n5⟩ := new_row (e := e) (cs := (Array.range (a.toNat * z.cells.size)).map (fun i => z.cells[i % z.cells.size]!)) (rest := []) (rows := List.replicate a.toNat zero) (n := a.toNat) (cap := a.toNat) (f := []) hI
    (rows_of_flat (fun r hr => by rw [(List.mem_replicate.1 hr).2]; exact ⟨hzl, h4.noPtr⟩) (repZeros h4 a.toNat)) (by rw [zeros_list]; simp) (by simp) (Nat.le_refl _) hcs (by simp) (by simp) (by simp)
  refine ⟨_, .slice (some ⟨w.heap.size, 0, none⟩) a.toNat a.toNat, pushObj w ((Array.range (a.toNat * z.cells.size)).map (fun i => z.cells[i % z.cells.size]!)) e, ?_, .inl rfl, _, β, g, [[w.heap.size]], n1, (Fr.refl (g := g)).thenPush (by simp), ROk.one (by simp) n2 n3 n4 n5, pin_push hI (fun _ _ h => h)⟩
  refine exec_v (sm := Instr.makeSlice ty (ev tm l) (ev tm c)) (by simp only [execOp, hop]) ?_
  rw [e1, e2]
  unfold Instr.makeSlice
  rw [Sem.run_bind, run_underlying h1]
  simp only [Result.andThen_ok]
  have ha1 : ∀ k, (asInt (.int k a)).run P w = .ok a w := fun k => by simp [asInt, asIntOf]
  rw [Sem.run_bind, ha1]
  simp only [Result.andThen_ok]
  rw [Sem.run_bind, ha1]
  simp only [Result.andThen_ok]
  rw [Sem.run_bind, run_info w h2]
  simp only [Result.andThen_ok, hw]
  have hcomm : (ei.bytes : Int) * a ≤ 2 ^ 47 := by rw [Int.mul_comm]; exact hby
  have hlt : ¬ ((ei.bytes : Int) * a > 2 ^ 48) := by omega
  have hn0 : ¬ (a < 0) := by omega
  rw [if_neg (by simp; omega)]
  rw [Sem.run_bind, run_askRoom, Result.andThen_ok, Sem.run_bind, run_size w h2, Result.andThen_ok]
  by_cases h0 : a.toNat * ei.size = 0
  · have hr0 : (Array.range 0).map (fun x => (#[] : Array Value)[x % (#[] : Array Value).size]!) = (Array.range (a.toNat * z.cells.size)).map (fun i => z.cells[i % z.cells.size]!) := by
      rw [hzs, h0]; simp
    simp only [h0, if_true]
    rw [Sem.run_bind, Sem.run_pure, Result.andThen_ok, hr0]
    rfl
  · have hr1 : (Array.range (a.toNat * ei.size)).map (fun x => z.cells[x % z.cells.size]!) = (Array.range (a.toNat * z.cells.size)).map (fun i => z.cells[i % z.cells.size]!) := by rw [hzs]
    simp only [h0, if_false]
    rw [Sem.run_bind, run_zero w h2 h3, Result.andThen_ok, Sem.run_bind, Sem.run_pure, Result.andThen_ok, hr1]
    rfl
end
end Pv

set_option linter.unusedVariables false
set_option linter.unusedSimpArgs false
namespace Pv
open Go
section
variable {P : Program} {E E2 : Env} {w w2 : World} {β β2 : Nat → Option Nat} {s s2 : St} {tm : Array Value} {g g2 : Nat → List Nat} {cx : Cx} {C : Orc}
theorem run_first {sz : Nat} {rows : List (List V)} {a : Option Addr} {cs : List Value} {f : List Nat} {cap : Nat} (h : Lies E w β sz rows a cs f) : (Builtin.firstCells sz rows.length (.slice a rows.length cap)).run P w = .ok cs.toArray w := by
  cases a with
  | none =>
    obtain ⟨h1, h2⟩ := h.nil rfl
    rw [h2]; exact run_firstCells_none w sz _ _ _
  | some ad =>
    obtain ⟨h1, h2, _⟩ := h.at' ad rfl
    refine run_firstCells_some w sz rows.length ad _ _ cs h.rep.len (fun j v hj => ?_)
    rw [add_spot h1]; exact h2 j v hj
theorem run_app {t t2 ty e e2 : TypeId} {ei : TypeInfo} {z : Value} {bx : Option Addr} {lx cx' : Nat} {vy : Value} {ny : Nat} {news olds : List Value} (h1 : P.underlying t = some (.slice e)) (h2 : P.underlying t2 = some (.slice e2)) (h3 : P.info? e = some ei) (hz : ei.zero = some z)
    (hlen : (Builtin.lenOf vy).run P w = .ok ny w) (hnew : ∀ w', w'.heap = w.heap → (Builtin.firstCells ei.size ny vy).run P w' = .ok news.toArray w') (hold : ∀ w', w'.heap = w.heap → (Builtin.firstCells ei.size lx (.slice bx lx cx')).run P w' = .ok olds.toArray w')
    (hby : (lx + ny) * ei.bytes ≤ 2 ^ 47) (hb0 : ei.bytes ≠ 0) (hle : lx ≤ cx') :
    (lx + ny ≤ cx' → (Builtin.append_ #[t, t2] ty #[.slice bx lx cx', vy]).run P w =
      (match bx with | some a => (storeCells (a.add (lx * ei.size)) news).run P w | none => .ok () w).andThen fun _ w' => .ok (.slice bx (lx + ny) cx') w') ∧
    (cx' < lx + ny → ∃ cap dr, lx + ny ≤ cap ∧ (Builtin.append_ #[t, t2] ty #[.slice bx lx cx', vy]).run P w =
      .ok (.slice (some ⟨w.heap.size, 0, none⟩) (lx + ny) cap) { pushObj w (olds.toArray ++ news.toArray ++ Builtin.zeroCells z.cells (cap - (lx + ny))) e with drawn := dr }) := by
  constructor
  · intro hfit
    unfold Builtin.append_
    simp only [List.getElem?_toArray, List.getElem?_cons_zero, List.getElem?_cons_succ]
    rw [Sem.run_bind, run_underlying h1]
    simp only [Result.andThen_ok]
    rw [Sem.run_bind, run_size w h3]
    simp only [Result.andThen_ok]
    rw [Sem.run_bind, run_underlying h2]
    simp only [Result.andThen_ok]
    rw [Sem.run_bind, Sem.run_pure]
    simp only [Result.andThen_ok, Bool.false_eq_true, if_false]
    rw [Sem.run_bind, hlen]
    simp only [Result.andThen_ok, if_pos hfit, Bool.not_false, if_true]
    rw [Sem.run_bind, hnew w rfl]
    simp only [Result.andThen_ok]
    cases bx with
    | none => rfl
    | some a => simp only []; rw [Sem.run_bind]; rfl
  · intro hfit
    have hgf := growslice_fits (need := lx + ny) (old := cx') (bytes := ei.bytes) hfit (by omega)
    refine ⟨(Question.appendCap (lx + ny) cx' e).cut (w.tape w.drawn (.appendCap (lx + ny) cx' e)), w.drawn + 1, by simp [Question.cut], ?_⟩
    unfold Builtin.append_
    simp only [List.getElem?_toArray, List.getElem?_cons_zero, List.getElem?_cons_succ]
    rw [Sem.run_bind, run_underlying h1]
    simp only [Result.andThen_ok]
    rw [Sem.run_bind, run_size w h3]
    simp only [Result.andThen_ok]
    rw [Sem.run_bind, run_underlying h2]
    simp only [Result.andThen_ok]
    rw [Sem.run_bind, Sem.run_pure]
    simp only [Result.andThen_ok, Bool.false_eq_true, if_false]
    rw [Sem.run_bind, hlen]
    simp only [Result.andThen_ok, if_neg (show ¬ (lx + ny ≤ cx') from by omega), Bool.not_false, if_true]
    rw [Sem.run_bind, run_info w h3]
    simp only [Result.andThen_ok, hb0, or_self, and_false, if_false]
    rw [Sem.run_bind, run_info w h3]
    simp only [Result.andThen_ok]
    rw [if_neg (by omega)]
    rw [Sem.run_bind, run_choose]
    simp only [Question.forced, Bool.false_eq_true, if_false, Result.andThen_ok]
    rw [Sem.run_bind, run_info _ h3]
    simp only [Result.andThen_ok]
    rw [Sem.run_bind, run_askRoom]
    simp only [Result.andThen_ok]
    rw [Sem.run_bind, hold { w with drawn := w.drawn + 1 } rfl]
    simp only [Result.andThen_ok]
    rw [Sem.run_bind, hnew { w with drawn := w.drawn + 1 } rfl]
    simp only [Result.andThen_ok]
    rw [Sem.run_bind, run_zero _ h3 hz]
    simp only [Result.andThen_ok]
    rfl
end
end Pv

set_option linter.unusedVariables false
set_option linter.unusedSimpArgs false
namespace Pv
open Go
section
variable {P : Program} {E E2 : Env} {w w2 : World} {β β2 : Nat → Option Nat} {s s2 : St} {tm : Array Value} {g g2 : Nat → List Nat} {cx : Cx} {C : Orc}
theorem noOwn_rows {sz : Nat} : ∀ {rows : List (List V)} {cs : List Value} {f : List Nat}, rows.all (fun r => r.all V.noOwn) = true → RepRows E w β sz rows cs f → f = []
  | [], _, _, _, h => by simp only [RepRows] at h; exact h.2
  | r :: rows, cs, f, hn, h => by
    simp only [RepRows] at h
    obtain ⟨c, cs', f1, f2, _, rfl, _, _, h1, h2⟩ := h
    simp only [List.all_cons, Bool.and_eq_true] at hn
    rw [noOwns_fp hn.1 h1, noOwn_rows hn.2 h2]; rfl
theorem take_place (hI : Inv E w β s tm g) {p : Pl} {sz : Nat} {R : List (List V)} {a : Option Addr} {cap : Nat} {u : Upd} (hc : s.cell p = some (.sl .own sz R)) (hv : plVal w β tm p = some (.slice a R.length cap)) (hput : s.put p [.dead] false = some u) :
    ∃ E2 g2 f, Tkn cx E w β s tm g (s.upd u) [.sl .own sz R] [.slice a R.length cap] E2 g2 f ∧ Rep E2 w β (.sl .own sz R) (.slice a R.length cap) f := by
  have htk : s.takeAt cx true p [.sl .own sz R] [.sl .own sz R] false = some ([.sl .own sz R], false, u, [(p.r, p.path.length)]) := by
    simp only [St.takeAt, List.any_cons, V.isDead, List.any_nil, Bool.or_false, Bool.false_eq_true, if_false, List.all_cons, V.noOwn, bne_self_eq_false, Bool.false_and, Cx.moves, Bool.true_or, if_true, deads, List.map_cons, List.map_nil, lowWith, hput]
  obtain ⟨_, _, E2, g2, f, k⟩ := tkn_of (cx := cx) hI (cells_one hc) (cs := [.slice a R.length cap]) (by simp) (by
    intro k a' c ha hc' hd
    cases k with
    | succ k => simp at ha
    | zero =>
      simp only [List.getElem?_cons_zero, Option.some.injEq] at ha hc'
      subst ha; subst hc'
      exact .inr ⟨⟨sz, R, rfl⟩, rfl, by rw [shift_zero]; exact hv⟩) htk
  refine ⟨E2, g2, f, k, ?_⟩
  have hrep := k.rep
  simp only [RepRow] at hrep
  obtain ⟨c, cs', f1, f2, e1, rfl, e3, rfl, rfl⟩ := hrep
  simp only [List.cons.injEq, and_true] at e1
  subst e1
  simpa using e3
structure Hand (cx : Cx) (E : Env) (w : World) (β : Nat → Option Nat) (s : St) (tm : Array Value) (g : Nat → List Nat) (s2 : St) (E2 : Env) (g2 : Nat → List Nat) (f : List Nat) : Prop where
  inv : Inv E2 w β s2 tm g2
  fr : Fr E w β g E2 w β g2 [f]
  nd : f.Nodup
  own : ∀ b ∈ f, E2.own b ∧ E2.tag b = none ∧ b < w.heap.size
  dis : ∀ i, ∀ b ∈ f, b ∉ g2 i
  box : ∀ i, isBox i = true → (s2.get i).isSome → (s.get i).isSome
theorem Tkn.hand {r : List V} {cs : List Value} {f f' : List Nat} (h : Tkn cx E w β s tm g s2 r cs E2 g2 f) (hs : f'.Sublist f) : Hand cx E w β s tm g s2 E2 g2 f' :=
  ⟨h.inv, h.fr.lift (fun b hb => h.fr.res b (by simpa using hs.subset (by simpa using hb))), h.nd.sublist hs, fun b hb => h.own b (hs.subset hb), fun i b hb => h.dis i b (hs.subset hb), h.box⟩
theorem Hand.then {E3 : Env} {g3 : Nat → List Nat} {s3 : St} {f f3 : List Nat} (h : Hand cx E w β s tm g s2 E2 g2 f) (k : Hand cx E2 w β s2 tm g2 s3 E3 g3 f3) : Hand cx E w β s tm g s3 E3 g3 (f3 ++ f) ∧ ∀ b ∈ f, b ∉ f3 := by
  obtain ⟨_, k2, k3, k4⟩ := k.fr.kept h.inv h.own h.dis
  have hd : ∀ b ∈ f, b ∉ f3 := fun b hb => by simpa using k4 b hb
  refine ⟨⟨k.inv, (h.fr.trans k.fr).lift ?_, ?_, ?_, ?_, fun i hi hs => h.box i hi (k.box i hi hs)⟩, hd⟩
  · intro b hb
    simp only [List.flatten_cons, List.flatten_nil, List.append_nil] at hb
    rcases List.mem_append.1 hb with hb | hb
    · exact (h.fr.trans k.fr).res b (by simpa using hb)
    · exact h.fr.res b (by simpa using hb)
  · rw [List.nodup_append]
    exact ⟨k.nd, h.nd, fun a ha b hb e => hd b hb (by rw [← e]; exact ha)⟩
  · intro b hb
    rcases List.mem_append.1 hb with hb | hb
    · exact k.own b hb
    · exact k2 b hb
  · intro i b hb
    rcases List.mem_append.1 hb with hb | hb
    · exact k.dis i b hb
    · exact k3 i b hb
theorem Hand.refl (hI : Inv E w β s tm g) : Hand cx E w β s tm g s E g [] := ⟨hI, { Fr.refl with res := by simp }, by simp, by simp, by simp, fun _ _ h => h⟩
end
end Pv

set_option linter.unusedVariables false
set_option linter.unusedSimpArgs false
namespace Pv
open Go
section
variable {P : Program} {E E2 : Env} {w w2 : World} {β β2 : Nat → Option Nat} {s s2 : St} {tm : Array Value} {g g2 : Nat → List Nat} {cx : Cx} {C : Orc}
theorem app_grow (hI : Inv E w β s tm g) {f f' : List Nat} (H : Hand cx E w β s tm g s2 E2 g2 f) {sz n cap dr : Nat} {rows : List (List V)} {c0 rest : List Value} {cs : Array Value} {e : TypeId} (hr : RepRows E2 w β sz rows c0 f') (hnd : f'.Nodup) (hsub : ∀ b ∈ f', b ∈ f)
    (hcs : cs.toList = c0 ++ rest) (hn : rows.length = n) (hc : n ≤ cap) (hcap : cs.size = cap * sz) :
    Out cx E w β s tm g (.one (.sl .own sz rows)) s2 (.slice (some ⟨w.heap.size, 0, none⟩) n cap) { pushObj w cs e with drawn := dr } := by
  obtain ⟨n1, n2, n3, n4, n5⟩ := new_row (e := e) H.inv hr hcs hn hc hcap hnd (fun b hb => H.own b (hsub b hb)) (fun i b hb => H.dis i b (hsub b hb))
  have hF := H.fr.thenPush (cs := cs) (e := e) (f := f') (fun b hb => H.fr.res b (by simpa using hsub b hb))
  have hst : Stp (E2.plus w.heap.size) (pushObj w cs e) (E2.plus w.heap.size) { pushObj w cs e with drawn := dr } := Stp.heap rfl
  refine ⟨_, β, g2, [w.heap.size :: f'], n1.heap rfl, ⟨⟨hF.wf.os, hF.wf.output⟩, hF.size, hF.same, hF.shr, hF.tag, hF.hdr, hF.sub, hF.res, hF.ext⟩, ROk.one (by simp) ?_ n3 n4 n5, ?_⟩
  · simp only [TOk]
    exact n2.frame hst (fun _ _ h => h) _ _ _ (fun _ _ => rfl)
  · intro hp
    have := pin_push (s2 := s2) (cs := cs) (e := e) hI H.box hp
    exact this.step (fun r _ _ h => ⟨h, fun j => rfl⟩)
theorem app_fit (hI : Inv E w β s tm g) {f : List Nat} (H : Hand cx E w β s tm g s2 E2 g2 f) {sz lx cap : Nat} {ra rb : List (List V)} {ca cb : List Value} {ad : Addr} {fa fb : List Nat} (hsp : ad.spot = none) (ha : RepRows E2 w β sz ra ca fa) (hb : RepRows E2 w β sz rb cb fb)
    (hat : RowAt w ad.block ad.off ca) (hcl : Clean w ad.block (ad.off + cap * sz)) (hlx : ra.length = lx) (hfit : lx + rb.length ≤ cap) (hin : ad.block ∈ f) (hnd : (ad.block :: (fa ++ fb)).Nodup) (hsub : ∀ b ∈ fa ++ fb, b ∈ f) :
    Out cx E w β s tm g (.one (.sl .own sz (ra ++ rb))) s2 (.slice (some ad) (lx + rb.length) cap) (putCells w ad.block (ad.off + lx * sz) cb) := by
  obtain ⟨ho1, ho2, ho3⟩ := H.own _ hin
  have hca : ca.length = lx * sz := by rw [ha.len, hlx]
  have hcb : cb.length = rb.length * sz := hb.len
  have hroom : ad.off + lx * sz + cb.length ≤ ad.off + cap * sz := by
    rw [hcb, Nat.add_assoc, ← Nat.add_mul]; exact Nat.add_le_add_left (Nat.mul_le_mul_right _ hfit) _
  have hst : Stp E2 w E2 (putCells w ad.block (ad.off + lx * sz) cb) := by
    refine ⟨by rw [putCells_size]; exact Nat.le_refl _, ?_, ?_, fun _ _ => rfl, rfl⟩
    · intro b hb hn
      exact ⟨putCells_other _ _ _ _ (fun e => hn (by rw [e]; exact ho1)), hn⟩
    · intro b hb ht
      exact putCells_other _ _ _ _ (fun e => ht (by rw [e]; exact ho2))
  rw [List.nodup_cons] at hnd
  have hI2 : Inv E2 (putCells w ad.block (ad.off + lx * sz) cb) β s2 tm g2 := by
    refine H.inv.world hst ?_ (fun i b hb => (H.inv.own i b hb).1) ?_
    · intro i x hx
      exact putCells_other _ _ _ _ (fun e => H.dis i _ hin (by rw [← e]; exact hx))
    · intro b hb; rw [putCells_size] at hb; exact H.inv.small b hb
  have hsame : ∀ b ∈ fa ++ fb, (putCells w ad.block (ad.off + lx * sz) cb).heap[b]? = w.heap[b]? := fun b hb => putCells_other _ _ _ _ (fun e => hnd.1 (by rw [← e]; exact hb))
  have hrep : RepRows E2 (putCells w ad.block (ad.off + lx * sz) cb) β sz (ra ++ rb) (ca ++ cb) (fa ++ fb) :=
    RepRows.append (ha.frame hst (fun _ _ h => h) _ _ _ _ (fun b hb => hsame b (by simp [hb]))) (hb.frame hst (fun _ _ h => h) _ _ _ _ (fun b hb => hsame b (by simp [hb])))
  refine ⟨E2, β, g2, [ad.block :: (fa ++ fb)], hI2, ?_, ROk.one (by simp) ?_ (by rw [List.nodup_cons]; exact hnd) ?_ ?_, ?_⟩
  · refine ⟨putCells_wf _ _ _ _, by rw [putCells_size]; exact Nat.le_refl _, ?_, H.fr.shr, H.fr.tag, H.fr.hdr, H.fr.sub, ?_, H.fr.ext⟩
    · intro b hb hn
      obtain ⟨_, q2⟩ := H.fr.same b hb hn
      refine ⟨putCells_other _ _ _ _ ?_, q2⟩
      intro e
      subst e
      rcases H.fr.res ad.block (by simpa using hin) with ⟨j, hj⟩ | hj
      · exact hn j hj
      · omega
    · intro b hb
      simp only [List.flatten_cons, List.flatten_nil, List.append_nil] at hb
      rcases List.mem_cons.1 hb with rfl | hb
      · exact H.fr.res _ (by simpa using hin)
      · exact H.fr.res _ (by simpa using hsub b hb)
  · simp only [TOk, Rep]
    refine ⟨some ad, _, _, ca ++ cb, fa ++ fb, rfl, by rw [List.length_append, hlx], hfit, hrep, ?_, by simp⟩
    simp only [SlOk]
    refine ⟨hsp, ?_, by rw [putCells_size]; exact ho3, .inl ⟨trivial, trivial, putCells_clean _ _ _ _ hcl⟩⟩
    rw [RowAt.append]
    constructor
    · intro j v hj
      have hjl := (List.getElem?_eq_some_iff.1 hj).1
      rw [putCells_far _ _ _ _ hcl (.inl (by omega))]
      exact hat j v hj
    · rw [hca]
      exact putCells_at _ _ _ _ hcl hroom
  · intro b hb
    rw [putCells_size]
    rcases List.mem_cons.1 hb with rfl | hb
    · exact ⟨ho1, ho2, ho3⟩
    · exact H.own b (hsub b hb)
  · intro i b hb
    rcases List.mem_cons.1 hb with rfl | hb
    · exact H.dis i _ hin
    · exact H.dis i b (hsub b hb)
  · intro hp
    refine hp.step (fun r _ hbr hs => ⟨H.box r hbr hs, fun j => ?_⟩)
    simp only [topVal, hbr, if_true]
    cases hβ : β r with
    | none => rfl
    | some blk =>
      simp only []
      cases hg : s2.get r with
      | none => rw [hg] at hs; simp at hs
      | some y =>
        have := H.inv.roots r y.1 y.2 hg
        simp only [RootOk, hbr, if_true] at this
        obtain ⟨b', cs', f', row', q1, _, q3, _⟩ := this
        rw [hβ] at q1
        obtain rfl := Option.some.inj q1
        exact cell_same (putCells_other _ _ _ _ (fun e => H.dis r _ hin (by rw [q3, ← e]; exact List.mem_cons_self))) j
end
end Pv
