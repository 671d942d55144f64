import Derived.Tactics
import Derived.Test.YtkgdfkhhaankkaaPvAM
set_option linter.all false
set_option linter.unusedVariables false
set_option linter.unusedSimpArgs false
namespace Pv
open Go
section
variable {P : Program} {E E2 E3 : Env} {w w2 : World} {β β2 : Nat → Option Nat} {s s2 : St} {tm : Array Value} {g g2 : Nat → List Nat} {cx : Cx} {C : Orc}
theorem putRows_ok : ∀ {boxes : List Nat} {rows : List (List V)} {s s1 : St}, boxes.Nodup → putRows s boxes rows = some s1 → (∀ i, i ∉ boxes → s1.get i = s.get i) ∧
    ∀ (j i : Nat), boxes[j]? = some i → ∃ row t v t', rows[j]? = some row ∧ s.get i = some (t, v) ∧ putBox i t row = some t' ∧ s1.get i = some (t', v + 1)
  | [], rows, s, s1, _, h => by
    simp only [putRows, Option.some.injEq] at h
    subst h; simp
  | r :: rs, [], s, s1, _, h => by simp [putRows] at h
  | r :: rs, row :: rows, s, s1, hn, h => by
    simp only [putRows] at h
    split at h
    case h_2 => simp at h
    rename_i t v hg
    split at h
    case h_2 => simp at h
    rename_i t' ht
    rw [List.nodup_cons] at hn
    obtain ⟨k1, k2⟩ := putRows_ok hn.2 h
    refine ⟨fun i hi => ?_, fun j i hj => ?_⟩
    · simp only [List.mem_cons, not_or] at hi
      rw [k1 i hi.2, get_set_ne _ _ (fun e => hi.1 e.symm)]
    · cases j with
      | zero =>
        simp only [List.getElem?_cons_zero, Option.some.injEq] at hj
        subst hj
        exact ⟨row, t, v, t', rfl, hg, ht, by rw [k1 r hn.1, get_set_same]⟩
      | succ j =>
        obtain ⟨row', t0, v0, t0', q1, q2, q3, q4⟩ := k2 j i (by simpa using hj)
        have hne : r ≠ i := by
          rintro rfl
          exact hn.1 (List.mem_of_getElem? (by simpa using hj))
        rw [get_set_ne _ _ hne] at q2
        exact ⟨row', t0, v0, t0', by simpa using q1, q2, q3, q4⟩
theorem putIo_ok : ∀ {ios : List (Nat × List V)} {rows : List (List V)} {s s1 : St}, (ios.map (·.1)).Nodup → putIo s ios rows = some s1 → (∀ i, i ∉ ios.map (·.1) → s1.get i = s.get i) ∧
    ∀ (k : Nat) (y : Nat × List V), ios[k]? = some y → ∃ row t v cur, rows[k]? = some row ∧ s.get y.1 = some (t, v) ∧ t.row? = some cur ∧ y.2.length = row.length ∧ y.2.length = cur.length ∧ s1.get y.1 = some (t.back (back3 y.2 cur row), v + 1)
  | [], rows, s, s1, _, h => by
    simp only [putIo, Option.some.injEq] at h
    subst h; simp
  | (r, old) :: ps, [], s, s1, _, h => by simp [putIo] at h
  | (r, old) :: ps, row :: rows, s, s1, hn, h => by
    simp only [putIo] at h
    split at h
    case h_2 => simp at h
    rename_i t v hg
    split at h
    case h_2 => simp at h
    rename_i cur hc
    split at h
    case isFalse => simp at h
    rename_i hl
    simp only [List.map_cons, List.nodup_cons] at hn
    obtain ⟨k1, k2⟩ := putIo_ok hn.2 h
    refine ⟨fun i hi => ?_, fun k y hk => ?_⟩
    · simp only [List.map_cons, List.mem_cons, not_or] at hi
      rw [k1 i hi.2, get_set_ne _ _ (fun e => hi.1 e.symm)]
    · cases k with
      | zero =>
        simp only [List.getElem?_cons_zero, Option.some.injEq] at hk
        subst hk
        exact ⟨row, t, v, cur, rfl, hg, hc, hl.1, hl.2, by rw [k1 r hn.1, get_set_same]⟩
      | succ k =>
        obtain ⟨row', t0, v0, c0, q1, q2, q3, q4, q5, q6⟩ := k2 k y (by simpa using hk)
        have hne : r ≠ y.1 := by
          rintro rfl
          exact hn.1 (List.mem_map.2 ⟨y, List.mem_of_getElem? (by simpa using hk), rfl⟩)
        rw [get_set_ne _ _ hne] at q2
        exact ⟨row', t0, v0, c0, by simpa using q1, q2, q3, q4, q5, q6⟩
theorem isOwnSl_fp {v : V} {c : Value} {f : List Nat} (h : isOwnSl v = false) (hr : Rep E w β v c f) : f = [] := by
  by_cases hn : v.noOwn = true
  · exact noOwn_fp hn hr
  · by_cases hd : v = .dead
    · subst hd; simpa [Rep] using hr
    · obtain ⟨sz, rows, rfl⟩ := own_of (by simpa using hn) hd hr
      simp [isOwnSl] at h
theorem back3_rep (hs : Stp E w E2 w2) : ∀ {hd cur out : List V} {cs ds : List Value} {fc F f : List Nat}, hd.length = cur.length → hd.length = out.length → RepRow E w β cur ds fc → RepRow E w β hd cs F → RepRow E2 w2 β out cs f →
    (∀ (j : Nat) (a : V), hd[j]? = some a → isOwnSl a = true → cur[j]? = some a ∧ cs[j]? = ds[j]?) → fc.Nodup → f.Nodup → (∀ b ∈ f, b ∈ fc → b ∈ F) → (∀ b ∈ fc, b ∉ F → w2.heap[b]? = w.heap[b]?) →
    (∀ b ∈ F, b ∈ fc) ∧ ∃ fn, RepRow E2 w2 β (back3 hd cur out) ds fn ∧ fn.Nodup ∧ ∀ b ∈ fn, (b ∈ fc ∧ b ∉ F) ∨ b ∈ f
  | [], cur, out, cs, ds, fc, F, f, h1, h2, h3, h4, _, _, _, _, _, _ => by
    cases cur <;> simp at h1
    simp only [RepRow] at h3 h4
    rw [h4.2]
    exact ⟨by simp, [], by simp [back3, RepRow, h3.1], by simp, by simp⟩
  | a :: hd, [], out, cs, ds, fc, F, f, h1, _, _, _, _, _, _, _, _, _ => by simp at h1
  | a :: hd, b :: cur, [], cs, ds, fc, F, f, _, h2, _, _, _, _, _, _, _, _ => by simp at h2
  | a :: hd, b :: cur, o :: out, cs, ds, fc, F, f, h1, h2, h3, h4, h5, h6, hn, hnf, hfF, hsame => by
    simp only [RepRow] at h3 h4 h5
    obtain ⟨d, ds', fc0, fc1, rfl, rfl, p1, p2⟩ := h3
    obtain ⟨c, cs', F0, F1, rfl, rfl, q1, q2⟩ := h4
    obtain ⟨c', cs'', f0, f1, e, rfl, r1, r2⟩ := h5
    simp only [List.cons.injEq] at e
    obtain ⟨rfl, rfl⟩ := e
    rw [List.nodup_append] at hn hnf
    have h60 := h6 0 a rfl
    have h6' : ∀ (j : Nat) (a : V), hd[j]? = some a → isOwnSl a = true → cur[j]? = some a ∧ cs'[j]? = ds'[j]? := fun j a h ho => by
      have := h6 (j + 1) a (by simpa using h) ho
      simpa using this
    have hF0 : (isOwnSl a = true → F0 = fc0) ∧ (isOwnSl a = false → F0 = []) := by
      refine ⟨fun ho => ?_, fun ho => isOwnSl_fp ho q1⟩
      obtain ⟨e1, e2⟩ := h60 ho
      simp only [List.getElem?_cons_zero, Option.some.injEq] at e1 e2
      subst e1; subst e2
      exact Rep.uniq _ _ _ _ q1 p1
    have hF0s : ∀ x ∈ F0, x ∈ fc0 := by
      intro x hx
      by_cases ho : isOwnSl a = true
      · rw [hF0.1 ho] at hx; exact hx
      · rw [hF0.2 (by simpa using ho)] at hx; simp at hx
    obtain ⟨k0, fn, k1, k2, k3⟩ := back3_rep hs (by simpa using h1) (by simpa using h2) p2 q2 r2 h6' hn.2.1 hnf.2.1 (fun x hx hxc => by
      rcases List.mem_append.1 (hfF x (List.mem_append.2 (.inr hx)) (List.mem_append.2 (.inr hxc))) with h | h
      · exact absurd rfl (hn.2.2 x (hF0s x h) x hxc)
      · exact h) (fun x hx hxF => hsame x (List.mem_append.2 (.inr hx)) (fun h => by
      rcases List.mem_append.1 h with h | h
      · exact hn.2.2 x (hF0s x h) x hx rfl
      · exact hxF h))
    refine ⟨fun x hx => ?_, ?_⟩
    · rcases List.mem_append.1 hx with h | h
      · exact List.mem_append.2 (.inl (hF0s x h))
      · exact List.mem_append.2 (.inr (k0 x h))
    · simp only [back3]
      by_cases ho : isOwnSl a = true
      · rw [if_pos ho]
        have he := (h60 ho).2
        simp only [List.getElem?_cons_zero, Option.some.injEq] at he
        subst he
        refine ⟨f0 ++ fn, by simp only [RepRow]; exact ⟨c, ds', f0, fn, rfl, rfl, r1, k1⟩, ?_, ?_⟩
        · rw [List.nodup_append]
          refine ⟨hnf.1, k2, fun x hx y hy e => ?_⟩
          subst e
          rcases k3 x hy with ⟨z1, z2⟩ | z
          · rcases List.mem_append.1 (hfF x (List.mem_append.2 (.inl hx)) (List.mem_append.2 (.inr z1))) with h | h
            · exact hn.2.2 x (hF0s x h) x z1 rfl
            · exact z2 h
          · exact hnf.2.2 x hx x z rfl
        · intro x hx
          rcases List.mem_append.1 hx with hx | hx
          · exact .inr (List.mem_append.2 (.inl hx))
          · rcases k3 x hx with ⟨z1, z2⟩ | z
            · refine .inl ⟨List.mem_append.2 (.inr z1), fun h => ?_⟩
              rcases List.mem_append.1 h with h | h
              · exact hn.2.2 x (hF0s x h) x z1 rfl
              · exact z2 h
            · exact .inr (List.mem_append.2 (.inr z))
      · rw [if_neg ho]
        have hnil := hF0.2 (by simpa using ho)
        subst hnil
        simp only [List.nil_append] at hfF hsame ⊢
        have hout : ∀ x ∈ fc0, x ∉ F1 := fun x hx h => hn.2.2 x hx x (k0 x h) rfl
        refine ⟨fc0 ++ fn, ?_, ?_, ?_⟩
        · simp only [RepRow]
          exact ⟨d, ds', fc0, fn, rfl, rfl, p1.frame hs (fun _ _ h => h) _ _ _ (fun x hx => hsame x (List.mem_append.2 (.inl hx)) (hout x hx)), k1⟩
        · rw [List.nodup_append]
          refine ⟨hn.1, k2, fun x hx y hy e => ?_⟩
          subst e
          rcases k3 x hy with ⟨z1, z2⟩ | z
          · exact hn.2.2 x hx x z1 rfl
          · exact hout x hx (hfF x (List.mem_append.2 (.inr z)) (List.mem_append.2 (.inl hx)))
        · intro x hx
          rcases List.mem_append.1 hx with hx | hx
          · exact .inl ⟨List.mem_append.2 (.inl hx), hout x hx⟩
          · rcases k3 x hx with ⟨z1, z2⟩ | z
            · exact .inl ⟨List.mem_append.2 (.inr z1), z2⟩
            · exact .inr (List.mem_append.2 (.inr z))
theorem RepPs.ptr : ∀ {a : List V} {b : List Value} {r : Nat}, RepPs β a b → r ∈ a.flatMap ptrs1 → β r ≠ none
  | [], _, _, _, h => by simp at h
  | a :: q, _, r, ⟨v, vs, h1, h2, h3⟩, h => by
    simp only [List.flatMap_cons, List.mem_append] at h
    rcases h with h | h
    · cases a <;> simp [ptrs1] at h
      · subst h; simp only [RepP] at h2; obtain ⟨b, h4, _⟩ := h2; rw [h4]; simp
      · subst h; simp only [RepP] at h2; obtain ⟨b, h4, _⟩ := h2; rw [h4]; simp
    · exact RepPs.ptr h3 h
theorem Rep.ptr {v : V} {c : Value} {f : List Nat} {r : Nat} (h : Rep E w β v c f) (hr : r ∈ ptrsV v) : β r ≠ none := by
  cases v <;> simp [ptrsV] at hr
  · subst hr; simp only [Rep, RepP] at h; obtain ⟨_, b, h4, _⟩ := h; rw [h4]; simp
  · rename_i g0 a b
    simp only [Rep] at h
    obtain ⟨_, xs, ys, _, h3, h4⟩ := h
    rcases hr with ⟨u, hu, hr⟩ | ⟨u, hu, hr⟩
    · exact RepPs.ptr h3 (List.mem_flatMap.2 ⟨u, hu, hr⟩)
    · exact RepPs.ptr h4 (List.mem_flatMap.2 ⟨u, hu, hr⟩)
  · subst hr; simp only [Rep, RepP] at h; obtain ⟨_, b, h4, _⟩ := h; rw [h4]; simp
theorem RepRow.ptr : ∀ {a : List V} {b : List Value} {f : List Nat} {r : Nat}, RepRow E w β a b f → r ∈ ptrRow a → β r ≠ none
  | [], _, _, _, _, h => by simp [ptrRow] at h
  | a :: q, _, _, r, h, hr => by
    simp only [RepRow] at h
    obtain ⟨c, cs', f1, f2, _, _, h1, h2⟩ := h
    simp only [ptrRow, List.flatMap_cons, List.mem_append] at hr
    rcases hr with hr | hr
    · exact Rep.ptr h1 hr
    · exact RepRow.ptr h2 hr
theorem low_turn {m : Nat} {cN : Nat → Value} {fN : Nat → List Nat} (ht : E2.tag = (E.call m cN fN).tag) (hh : E2.hdr = (E.call m cN fN).hdr) (h3t : E3.tag = E.tag) (h3h : E3.hdr = E.hdr)
    (hown : ∀ b, E3.own b → E2.own b) : Turn E2 E3 (Lab.low m) (Lab.dn m) := by
  have key : ∀ t b, ¬ t < m → (¬ E2.own b ∨ ∃ q, E2.tag b = some q ∧ q t) → (¬ E3.own b ∨ ∃ q, E3.tag b = some q ∧ q (t - m)) := by
    rintro t b hn (h | ⟨q, h1, h2⟩)
    · exact .inl (fun h3 => h (hown b h3))
    · rw [ht] at h1
      simp only [Env.call] at h1
      split at h1
      case isFalse => simp at h1
      obtain rfl := Option.some.inj h1
      rcases h2 with ⟨h2, h4⟩ | ⟨h2, q', h4, h5⟩
      · exact absurd h2 hn
      · exact .inr ⟨q', by rw [h3t]; exact h4, h5⟩
  refine ⟨rfl, ?_, ?_, ?_⟩
  · intro l b hl hb h
    cases l with
    | own => exact absurd rfl hl
    | ro => exact fun h3 => h (hown b h3)
    | lent t =>
      simp only [Lab.low, decide_eq_false_iff_not] at hb
      simp only [Lab.dn, if_neg hb]
      exact key t b hb h
    | part t =>
      simp only [Lab.low, decide_eq_false_iff_not] at hb
      simp only [Lab.dn, if_neg hb]
      exact key t b hb h
  · intro l hl
    cases l <;> simp only [Lab.dn] <;> first | exact hl | (split <;> simp) | simp
  · intro l t hl hb h
    cases l with
    | lent t' =>
      simp only [Lab.low, decide_eq_false_iff_not] at hb
      simp only [Lab.dn, if_neg hb, Lab.lent.injEq] at h
      subst h
      exact ⟨t', rfl, by rw [h3h, hh]; simp only [Env.call]; rw [if_neg hb]⟩
    | part t' => simp only [Lab.dn] at h; split at h <;> simp at h
    | _ => simp [Lab.dn] at h
theorem not_low {m : Nat} {tops : List V} (h : tops.any (V.anyL (Lab.low m)) = false) {t : Nat} (ht : t < m) : lentIn t tops = 0 ∧ partIn t tops = false := by
  induction tops with
  | nil => exact ⟨rfl, rfl⟩
  | cons v r ih =>
    simp only [List.any_cons, Bool.or_eq_false_iff] at h
    obtain ⟨i1, i2⟩ := ih h.2
    have hv : v.anyL (Lab.isTag t) = false := by
      apply Classical.byContradiction
      intro hc
      have := anyL_mono (q := Lab.isTag t) (q' := Lab.low m) (fun l hl => by
        cases l <;> simp [Lab.isTag] at hl
        · subst hl; simp [Lab.low, ht]
        · subst hl; simp [Lab.low, ht]) v (by simpa using hc)
      rw [h.1] at this; simp at this
    rw [lentIn_cons, i1]
    cases v with
    | sl l sz rows =>
      cases l with
      | lent t' =>
        simp only [V.anyL, Lab.isTag, Bool.or_eq_false_iff, beq_eq_false_iff_ne, ne_eq] at hv
        simp only [lentIs, if_neg hv.1, partIn, i2, hv.2, Bool.or_self, Nat.add_zero, and_self]
      | _ => simp only [lentIs, partIn, hv, i2, Bool.or_self, Nat.add_zero, and_self]
    | _ => simp only [lentIs, partIn, hv, i2, Bool.or_self, Nat.add_zero, and_self]
end
end Pv

set_option linter.unusedVariables false
set_option linter.unusedSimpArgs false
namespace Pv
open Go
section
variable {P : Program} {E E2 E3 : Env} {w w2 : World} {β β2 : Nat → Option Nat} {s s2 : St} {tm : Array Value} {g g2 : Nat → List Nat} {cx : Cx} {C : Orc}
theorem cellsAre_uniq {ag : Bool} {cv : Value} {cs ds : List Value} (h : cellsAre ag cv cs) (k : cellsAre ag cv ds) : cs = ds := by
  unfold cellsAre at h k
  split at h
  · rw [if_pos (by assumption)] at k
    rw [h] at k
    simpa using k
  · rw [if_neg (by assumption)] at k
    rw [h, k]
def Env.behind (E Ec : Env) : Env := { own := Ec.own, tag := E.tag, hdr := E.hdr }
theorem call_vars {io : List Nat} {xs : List Operand} {Xs : List O} {hs : List (List V × Bool × Option Pl)} {ios : List (Nat × List V)} {args : List T} {caps : List V} {capv : List Value}
    {boxes : List Nat} {rows : List (List V)} {cN : Nat → Value} {fN : Nat → List Nat} {FI : List (List Nat)} (S : CallSt E w β s tm g io xs Xs hs ios args caps capv boxes rows cN fN FI)
    {t : T} {ext2 : List (List V)} {cv : Value} {Ec : Env} {βc : Nat → Option Nat} {F2 fts : List (List Nat)}
    (D : BdOut (E.call (nodesAll hs).length cN fN) w (inB β boxes) io ((args ++ caps.map T.one).map (T.ren (intoBox boxes)))
      (rows.map (fun r => (mapLRow (Lab.up (nodesAll hs).length) r).map (V.ren (intoBox boxes))) ++ ios.map (fun x => (mapLRow (Lab.up (nodesAll hs).length) x.2).map (V.ren (intoBox boxes))))
      (xs.map (ev tm) ++ capv).toArray (boxes.map g ++ FI) t ext2 cv Ec w2 βc F2 fts)
    {b : Nat} {s1 s2 : St} (hlow : ext2.any (fun r => anyLRow (Lab.low (nodesAll hs).length) r || (ptrRow r).contains 20000) = false)
    (h1 : putRows s boxes (ext2.map fun r => (mapLRow (Lab.dn (nodesAll hs).length) r).map (V.ren (backBox boxes b))) = some s1)
    (h2 : putIo s1 ios ((ext2.drop boxes.length).map fun r => (mapLRow (Lab.dn (nodesAll hs).length) r).map (V.ren (backBox boxes b))) = some s2) :
    ∃ g1, Inv (E.behind Ec) w2 β s2 tm g1 ∧ Stp E w (E.behind Ec) w2 ∧ (∀ i, i ∉ boxes → i ∉ ios.map (·.1) → s2.get i = s.get i ∧ g1 i = g i) ∧ (∀ i, (s2.get i).isSome = (s.get i).isSome) ∧
      (∀ i b, b ∈ g1 i → (∃ (n : Nat) (F : List Nat), n < boxes.length + ios.length ∧ F2[n]? = some F ∧ b ∈ F) ∨ (b ∈ g i ∧ b ∉ (boxes.map g ++ FI).flatten)) ∧
      (∀ b, b < w.heap.size → b ∉ (boxes.map g ++ FI).flatten → w2.heap[b]? = w.heap[b]? ∧ (Ec.own b ↔ E.own b)) ∧
      (∀ (row : List V) (f : List Value × List Nat), RepRow Ec w2 βc row f.1 f.2 → row ∈ ext2 → RepRow (E.behind Ec) w2 β ((mapLRow (Lab.dn (nodesAll hs).length) row).map (V.ren (backBox boxes b))) f.1 f.2) ∧
      (∀ r, βc r ≠ none → r ≠ 20000 → β (backBox boxes b r) = βc r) := by
  have hI := S.inv
  obtain ⟨r1, r2, r3⟩ := S.roots
  obtain ⟨b1, b2⟩ := rowsOf_ok S.rowsEq
  have hF : ∀ x ∈ (boxes.map g ++ FI).flatten, E.own x ∧ E.tag x = none ∧ x < w.heap.size := by
    intro x hx
    obtain ⟨r, _, h⟩ := r2 x hx
    exact hI.own r x h
  have hex : (rows.map (fun r => (mapLRow (Lab.up (nodesAll hs).length) r).map (V.ren (intoBox boxes))) ++ ios.map (fun x => (mapLRow (Lab.up (nodesAll hs).length) x.2).map (V.ren (intoBox boxes)))).length = boxes.length + ios.length := by
    simp only [List.length_append, List.length_map]; omega
  have hnb : boxes.length + ios.length - io.length = boxes.length := by have := S.ioLen; omega
  have hsame : ∀ b, b < w.heap.size → b ∉ (boxes.map g ++ FI).flatten → w2.heap[b]? = w.heap[b]? ∧ (Ec.own b ↔ E.own b) := fun b hb hn => D.same b hb hn
  have hst : Stp E w (E.behind Ec) w2 := by
    refine ⟨D.size, fun b hb hn => ?_, fun b hb ht => ?_, fun _ _ => rfl, rfl⟩
    · have hnf : b ∉ (boxes.map g ++ FI).flatten := fun h => hn (hF b h).1
      exact ⟨(hsame b hb hnf).1, fun h => hn ((hsame b hb hnf).2.1 h)⟩
    · have hnf : b ∉ (boxes.map g ++ FI).flatten := fun h => ht (hF b h).2.1
      exact (hsame b hb hnf).1
  have hturn : Turn Ec (E.behind Ec) (Lab.low (nodesAll hs).length) (Lab.dn (nodesAll hs).length) := low_turn D.tag D.hdr rfl rfl (fun _ h => h)
  have hptr : ∀ r, βc r ≠ none → r ≠ 20000 → β (backBox boxes b r) = βc r := by
    intro r hr hne
    obtain ⟨x, hx⟩ := Option.ne_none_iff_exists'.1 hr
    rcases D.only r x hx with ⟨j, row, hj, hrow, rfl⟩ | ⟨e, _⟩
    case inr => exact absurd e hne
    rw [D.exts j row hj hrow]
    rw [hex, hnb] at hj
    rw [List.getElem?_append_left (by simp; omega), List.getElem?_map, Option.map_eq_some_iff] at hrow
    obtain ⟨row0, h0, rfl⟩ := hrow
    obtain ⟨r0, hr0⟩ : ∃ r0, boxes[j]? = some r0 := ⟨boxes[j], by simp⟩
    have hfew := S.few
    have hmp : T.isMp row0 = decide (600000 ≤ r0) := by
      rcases boxRow_ok (b2 j r0 row0 hr0 h0) with ⟨ka, va, ks, vs, v, hg, hr6, rfl⟩ | ⟨v, hg, hbx⟩
      · simp [T.isMp, hr6]
      · have hroot := hI.roots r0 _ _ hg
        simp only [RootOk, hbx, if_true] at hroot
        obtain ⟨_, _, _, row', _, h2', _, h4, _⟩ := hroot
        simp only [T.agg.injEq] at h2'
        subst h2'
        have hr6 : ¬ 600000 ≤ r0 := by have := isBox_ge hbx; omega
        simp [h4.noMp, hr6]
    rw [extAt_mp, isMp_up, hmp]
    have hin := inB_at (β := β) S.few hr0
    by_cases h6 : 600000 ≤ r0
    · simp only [h6, decide_true, if_true] at hin ⊢
      rw [hin]
      unfold backBox
      rw [if_neg (by omega), if_pos (by omega), show 610000 + j - 610000 = j from by omega]
      simp [hr0]
    · simp only [h6, decide_false, Bool.false_eq_true, if_false] at hin ⊢
      rw [hin]
      unfold backBox
      rw [if_neg (by omega), if_neg (by omega), show 10000 + j - 10000 = j from by omega]
      simp [hr0]
  have hrows : ∀ row (f : List Value × List Nat), RepRow Ec w2 βc row f.1 f.2 → row ∈ ext2 → RepRow (E.behind Ec) w2 β ((mapLRow (Lab.dn (nodesAll hs).length) row).map (V.ren (backBox boxes b))) f.1 f.2 := by
    intro row f h hm
    have hl : anyLRow (Lab.low (nodesAll hs).length) row = false ∧ 20000 ∉ ptrRow row := by
      have := List.any_eq_false.1 hlow row hm
      simp only [Bool.or_eq_true, not_or, Bool.not_eq_true] at this
      exact ⟨this.1, by simpa using this.2⟩
    refine RepRow.ren (β := βc) _ _ _ (fun r hr => ?_) (RepRow.mapL hturn _ _ _ hl.1 h)
    rw [ptrRow_mapL] at hr
    exact hptr r (h.ptr hr) (fun e => hl.2 (by rw [← e]; exact hr))
  obtain ⟨p1, p2⟩ := putRows_ok S.boxNd h1
  obtain ⟨q1, q2⟩ := putIo_ok S.ioNd h2
  have hF2own : ∀ (n : Nat) (F : List Nat), F2[n]? = some F → ∀ x ∈ F, (E.behind Ec).own x ∧ (E.behind Ec).tag x = none ∧ x < w2.heap.size ∧ (x ∈ (boxes.map g ++ FI).flatten ∨ w.heap.size ≤ x) := by
    intro n F hn x hx
    have hm : x ∈ (F2 ++ fts).flatten := by
      rw [List.flatten_append]
      exact List.mem_append.2 (.inl (List.mem_flatten.2 ⟨F, List.mem_of_getElem? hn, hx⟩))
    obtain ⟨k1, k2, k3⟩ := D.own x hm
    refine ⟨k1, ?_, k3, D.sub x hm⟩
    show E.tag x = none
    rcases D.sub x hm with h | h
    · exact (hF x h).2.1
    · exact hI.small x h
  have hF2nd : F2.flatten.Nodup := by
    have := D.nd
    rw [List.flatten_append] at this
    exact (List.nodup_append.1 this).1
  have hF2F : ∀ (n : Nat) (F : List Nat), F2[n]? = some F → F.Nodup := fun n F hn => (List.pairwise_flatten.1 hF2nd).1 F (List.mem_of_getElem? hn)
  have hF2dis : ∀ (n m : Nat) (F G : List Nat), n ≠ m → F2[n]? = some F → F2[m]? = some G → ∀ x ∈ F, x ∉ G := by
    intro n m F G hne hn hm x hx hx2
    have hp := (List.pairwise_flatten.1 hF2nd).2
    rw [List.pairwise_iff_getElem] at hp
    obtain ⟨hn1, hn2⟩ := List.getElem?_eq_some_iff.1 hn
    obtain ⟨hm1, hm2⟩ := List.getElem?_eq_some_iff.1 hm
    rcases Nat.lt_or_gt_of_ne hne with h | h
    · have := hp n m hn1 hm1 h
      rw [hn2, hm2] at this
      exact this x hx x hx2 rfl
    · have := hp m n hm1 hn1 h
      rw [hn2, hm2] at this
      exact this x hx2 x hx rfl
  have hF2at : ∀ (n : Nat) (row : List V), ext2[n]? = some row → ∃ F : List Nat, F2[n]? = some F := by
    intro n row h
    have hlt := (List.getElem?_eq_some_iff.1 h).1
    have hl := D.nF
    exact ⟨F2[n]'(by omega), by simp⟩
  have each : ∀ i, ∃ gi : List Nat, gi.Nodup ∧ (∀ x ∈ gi, (∃ (n : Nat) (F : List Nat), (boxes ++ ios.map (·.1))[n]? = some i ∧ F2[n]? = some F ∧ x ∈ F) ∨ (x ∈ g i ∧ x ∉ (boxes.map g ++ FI).flatten)) ∧
      (¬ (i ∈ boxes ∨ i ∈ ios.map (·.1)) → gi = g i) ∧
      ((i ∈ boxes ∨ i ∈ ios.map (·.1)) → ∃ t v t1 v1, s.get i = some (t, v) ∧ s2.get i = some (t1, v1) ∧ v < v1 ∧ RootS (E.behind Ec) w2 β tm i t1 gi ∧ (∀ r ka va ks vs, t = .mp r ka va ks vs → ∃ ka va ks vs, t1 = .mp i ka va ks vs)) := by
    intro i
    by_cases hbx : i ∈ boxes
    · obtain ⟨j, hj⟩ := List.getElem?_of_mem hbx
      have hjl := (List.getElem?_eq_some_iff.1 hj).1
      obtain ⟨row', t, v, t', e1, e2, e3, e4⟩ := p2 j i hj
      rw [List.getElem?_map, Option.map_eq_some_iff] at e1
      obtain ⟨row, e1, rfl⟩ := e1
      obtain ⟨F, hFj⟩ := hF2at j row e1
      obtain ⟨row0, h0⟩ : ∃ row0, rows[j]? = some row0 := ⟨rows[j]'(by omega), by simp⟩
      obtain ⟨hBR, hmp⟩ := D.box j row _ F (by rw [hex, hnb]; exact hjl) (by rw [List.getElem?_append_left (by simp; omega), List.getElem?_map, h0]; rfl) e1 hFj
      rw [isMp_up] at hmp
      have hni : i ∉ ios.map (·.1) := fun h => S.ioBox i h hbx
      have hget : s2.get i = some (t', v + 1) := by rw [q1 i hni]; exact e4
      refine ⟨F, hF2F j F hFj, fun x hx => .inl ⟨j, F, by rw [List.getElem?_append_left hjl]; exact hj, hFj, hx⟩, fun hn => absurd (.inl hbx) hn, fun _ => ⟨t, v, t', v + 1, e2, hget, by omega, ?_⟩⟩
      have hexts := D.exts j _ (by rw [hex, hnb]; exact hjl) (by rw [List.getElem?_append_left (by simp; omega), List.getElem?_map, h0]; rfl)
      rw [extAt_mp, isMp_up] at hexts
      have hin := inB_at (β := β) S.few hj
      rcases boxRow_ok (b2 j i row0 hj h0) with ⟨ka, va, ks, vs, v0, hg, hr6, rfl⟩ | ⟨v0, hg, hbox⟩
      · rw [e2] at hg
        simp only [Option.some.injEq, Prod.mk.injEq] at hg
        obtain ⟨rfl, rfl⟩ := hg
        have hm1 : T.isMp row = true := by rw [hmp]; rfl
        obtain ⟨ka2, va2, ks2, vs2, rfl⟩ := isMp_iff.1 hm1
        rw [brow_mp] at hBR
        obtain ⟨blk, es, clk, z1, z2, z3, z4, z5⟩ := hBR
        simp only [putBox, mapLRow, V.mapL, List.map_cons, List.map_nil, V.ren, Option.some.injEq] at e3
        subst e3
        have hnbx : isBox i = false := by simp [isBox]; omega
        refine ⟨?_, fun r ka va ks vs _ => ⟨_, _, _, _, rfl⟩⟩
        unfold RootS
        rw [if_neg (by simp [hnbx])]
        refine ⟨?_, rfl⟩
        simp only [TOk]
        simp only [T.isMp, if_true] at hexts
        rw [if_pos hr6] at hin
        exact ⟨blk, es, clk, by rw [← hin, ← hexts]; exact z1, z2, z3, z4, z5⟩
      · rw [e2] at hg
        simp only [Option.some.injEq, Prod.mk.injEq] at hg
        obtain ⟨rfl, rfl⟩ := hg
        have hroot := hI.roots i _ _ e2
        simp only [RootOk, hbox, if_true] at hroot
        obtain ⟨_, _, _, row'', _, h2', _, h4, _⟩ := hroot
        simp only [T.agg.injEq] at h2'
        subst h2'
        have hm0 := h4.noMp
        have hm1 : T.isMp row = false := by rw [hmp]; exact hm0
        rw [brow_agg hm1] at hBR
        obtain ⟨blk, cs, f0, z1, z2, z3, z4, z5, z6⟩ := hBR
        have hrep := hrows row (cs, f0) z3 (List.mem_of_getElem? e1)
        simp only [putBox] at e3
        split at e3
        case isFalse => simp at e3
        obtain rfl := Option.some.inj e3
        have hr6 : ¬ 600000 ≤ i := by have := isBox_ge hbox; omega
        refine ⟨?_, fun r ka va ks vs h => by simp at h⟩
        unfold RootS
        rw [if_pos hbox]
        rw [hm0] at hexts
        simp only [Bool.false_eq_true, if_false] at hexts
        rw [if_neg hr6] at hin
        exact ⟨blk, cs, f0, _, by rw [← hin, ← hexts]; exact z1, rfl, z2, hrep, z4, z5, z6⟩
    · by_cases hio : i ∈ ios.map (·.1)
      · obtain ⟨y, hy, rfl⟩ := List.mem_map.1 hio
        obtain ⟨k, hk⟩ := List.getElem?_of_mem hy
        have hkl := (List.getElem?_eq_some_iff.1 hk).1
        obtain ⟨row', t, v, cur, e1, e2, e3, e4, e5, e6⟩ := q2 k y hk
        rw [List.getElem?_map, Option.map_eq_some_iff] at e1
        obtain ⟨row, e1, rfl⟩ := e1
        rw [List.getElem?_drop] at e1
        obtain ⟨F, hFk⟩ := hF2at _ row e1
        obtain ⟨ik, hik⟩ : ∃ ik, io[k]? = some ik := ⟨io[k]'(by rw [← S.ioLen]; exact hkl), by simp⟩
        obtain ⟨FIk, hFIk⟩ : ∃ FIk, FI[k]? = some FIk := ⟨FI[k]'(by rw [S.fiLen]; exact hkl), by simp⟩
        obtain ⟨x, X, m1, m2, m3, m4⟩ := S.ioOk k ik y FIk hik hk hFIk
        obtain ⟨ag, cs, cur0, ds, fc, t0, v0, n1, n2, n3, n4, n5, n6, n7, n8, n9, n10⟩ := m3.ex
        rw [p1 y.1 hbx] at e2
        rw [n1] at e2
        simp only [Option.some.injEq, Prod.mk.injEq] at e2
        obtain ⟨rfl, rfl⟩ := e2
        rw [n2] at e3
        obtain rfl := Option.some.inj e3
        obtain ⟨t2, cv2, w1, w3, cs', w4, w5, w6⟩ := D.ios k ik row F hik (by rw [hex, hnb]; exact e1) (by rw [hex, hnb]; exact hFk)
        have hcv2 : cv2 = ev tm x := by
          have hil := (List.getElem?_eq_some_iff.1 m1).1
          simp only [List.getElem?_toArray] at w3
          rw [List.getElem?_append_left (by simpa using hil), List.getElem?_map, m1] at w3
          exact (Option.some.inj w3).symm
        have hag : t2.isAgg = ag := by
          obtain ⟨va1, va2⟩ := views_in hI S.opds S.hand S.view S.nodes
          rw [List.getElem?_map, Option.map_eq_some_iff] at w1
          obtain ⟨t3, w1, rfl⟩ := w1
          have hil := (List.getElem?_eq_some_iff.1 m1).1
          rw [List.getElem?_append_left (by omega)] at w1
          obtain ⟨_, _, z3⟩ := va2 ik t3 w1
          obtain ⟨X', z4, z5⟩ := z3 (List.mem_of_getElem? hik)
          rw [m2] at z4
          obtain rfl := Option.some.inj z4
          have hragg : (t3.ren (intoBox boxes)).isAgg = t3.isAgg := by cases t3 <;> rfl
          rw [hragg]
          exact Bool.eq_iff_iff.2 (z5.trans n7.symm)
        rw [hcv2, hag] at w4
        have := cellsAre_uniq n4 w4
        subst this
        have hrep := hrows row (cs, F) w5 (List.mem_of_getElem? e1)
        have hfcg : ∀ x ∈ fc, x ∈ g y.1 := by
          rcases n10 with ⟨_, blk, _, _, hg, _⟩ | ⟨_, hg, _⟩
          · intro x hx; rw [hg]; exact List.mem_cons_of_mem _ hx
          · intro x hx; rw [hg]; exact hx
        have hFIkF : ∀ x ∈ FIk, x ∈ (boxes.map g ++ FI).flatten := by
          intro x hx
          rw [List.flatten_append]
          exact List.mem_append.2 (.inr (List.mem_flatten.2 ⟨FIk, List.mem_of_getElem? hFIk, hx⟩))
        have hown : ∀ x ∈ g y.1, x ∈ (boxes.map g ++ FI).flatten → x ∈ FIk := by
          intro x hx hxF
          rw [List.flatten_append, List.mem_append] at hxF
          rcases hxF with h | h
          · obtain ⟨l, hl, hxl⟩ := List.mem_flatten.1 h
            obtain ⟨r', hr', rfl⟩ := List.mem_map.1 hl
            have hne : r' ≠ y.1 := fun e => hbx (by rw [← e]; exact hr')
            exact absurd hx (hI.disj r' y.1 hne x hxl)
          · obtain ⟨l, hl, hxl⟩ := List.mem_flatten.1 h
            obtain ⟨k', hk'⟩ := List.getElem?_of_mem hl
            have hk'l := (List.getElem?_eq_some_iff.1 hk').1
            rw [S.fiLen] at hk'l
            obtain ⟨y', hy'⟩ : ∃ y', ios[k']? = some y' := ⟨ios[k'], by simp⟩
            obtain ⟨ik', hik'⟩ : ∃ ik, io[k']? = some ik := ⟨io[k']'(by rw [← S.ioLen]; exact hk'l), by simp⟩
            obtain ⟨_, _, _, _, _, hsub⟩ := S.ioOk k' ik' y' l hik' hy' hk'
            by_cases hkk : k' = k
            · subst hkk
              rw [hFIk] at hk'
              obtain rfl := Option.some.inj hk'
              exact hxl
            · have hne : y'.1 ≠ y.1 := by
                intro e
                have hnd := S.ioNd
                have z1 : (ios.map (·.1))[k']? = some y'.1 := by rw [List.getElem?_map, hy']; rfl
                have z2 : (ios.map (·.1))[k]? = some y'.1 := by rw [List.getElem?_map, hk, e]; rfl
                exact hkk ((List.getElem?_inj (by simpa using hk'l) hnd).1 (z1.trans z2.symm))
              exact absurd hx (hI.disj y'.1 y.1 hne x (hsub.subset hxl))
        have hfcnd : fc.Nodup := by
          have := hI.nodup y.1
          rcases n10 with ⟨_, blk, _, _, hg, _⟩ | ⟨_, hg, _⟩
          · rw [hg, List.nodup_cons] at this; exact this.2
          · rw [hg] at this; exact this
        obtain ⟨_, fn, z1, z2, z3⟩ := back3_rep hst (n3.symm) (by rw [List.length_map, mapLRow_len]; simpa [mapLRow_len] using e4) n8 n5 hrep n9 hfcnd (hF2F _ F hFk) (fun x hx hxc => by
          rcases (hF2own _ F hFk x hx).2.2.2 with h | h
          · exact hown x (hfcg x hxc) h
          · have := (hI.own _ x (hfcg x hxc)).2.2; omega) (fun x hx hxn => (hsame x (hI.own _ x (hfcg x hx)).2.2 (fun h => hxn (hown x (hfcg x hx) h))).1)
        have hidx : (boxes ++ ios.map (·.1))[boxes.length + k]? = some y.1 := by
          rw [List.getElem?_append_right (by omega), Nat.add_sub_cancel_left, List.getElem?_map, hk]; rfl
        have hfn : ∀ x ∈ fn, (∃ (n : Nat) (F : List Nat), (boxes ++ ios.map (·.1))[n]? = some y.1 ∧ F2[n]? = some F ∧ x ∈ F) ∨ (x ∈ g y.1 ∧ x ∉ (boxes.map g ++ FI).flatten) := by
          intro x hx
          rcases z3 x hx with ⟨h1, h2⟩ | h
          · exact .inr ⟨hfcg x h1, fun h3 => h2 (hown x (hfcg x h1) h3)⟩
          · exact .inl ⟨_, F, hidx, hFk, h⟩
        rcases n10 with ⟨hb0, blk, hβ, rfl, hg, hat, hcl, hlt⟩ | ⟨hb0, hg, hcase⟩
        · have hblk : blk ∉ (boxes.map g ++ FI).flatten := by
            intro h
            have h2 := hown blk (by rw [hg]; simp) h
            have h3 := hI.nodup y.1
            rw [hg, List.nodup_cons] at h3
            have h4 := (back3_rep hst (n3.symm) (by rw [List.length_map, mapLRow_len]; simpa [mapLRow_len] using e4) n8 n5 hrep n9 hfcnd (hF2F _ F hFk) (fun x hx hxc => by
              rcases (hF2own _ F hFk x hx).2.2.2 with h | h
              · exact hown x (hfcg x hxc) h
              · have := (hI.own _ x (hfcg x hxc)).2.2; omega) (fun x hx hxn => (hsame x (hI.own _ x (hfcg x hx)).2.2 (fun h => hxn (hown x (hfcg x hx) h))).1)).1 blk h2
            exact h3.1 h4
          have hsb := (hsame blk hlt hblk).1
          have hblkfn : blk ∉ fn := by
            intro h
            rcases z3 blk h with ⟨h1, _⟩ | h1
            · have h3 := hI.nodup y.1
              rw [hg, List.nodup_cons] at h3
              exact h3.1 h1
            · rcases (hF2own _ F hFk blk h1).2.2.2 with h | h
              · exact hblk h
              · omega
          refine ⟨blk :: fn, by rw [List.nodup_cons]; exact ⟨hblkfn, z2⟩, ?_, fun hn => absurd (.inr hio) hn, fun _ => ⟨_, _, _, _, n1, e6, by omega, ?_, fun r ka va ks vs h => by simp at h⟩⟩
          · intro x hx
            rcases List.mem_cons.1 hx with rfl | hx
            · exact .inr ⟨by rw [hg]; simp, hblk⟩
            · exact hfn x hx
          · unfold RootS
            rw [if_pos hb0]
            refine ⟨blk, ds, fn, _, hβ, ?_, rfl, z1, hat.same hsb, hcl.same hsb, Nat.lt_of_lt_of_le hlt D.size⟩
            generalize back3 y.2 cur0 _ = q
            cases q with
            | nil => rfl
            | cons a q => cases q <;> rfl
        · refine ⟨fn, z2, hfn, fun hn => absurd (.inr hio) hn, fun _ => ⟨_, _, _, _, n1, e6, by omega, ?_, fun r ka va ks vs h => by rw [h] at n2; simp [T.row?] at n2⟩⟩
          unfold RootS
          rw [if_neg (by simp [hb0])]
          rcases hcase with ⟨v1, rfl, rfl, rfl⟩ | ⟨rfl, a, h1, rfl⟩
          · have hl3 := z1.len
            have hl4 : (back3 y.2 [v1] ((mapLRow (Lab.dn (nodesAll hs).length) row).map (V.ren (backBox boxes b)))).length = 1 := by rw [← hl3]; rfl
            obtain ⟨v2, hv2⟩ : ∃ v2, back3 y.2 [v1] ((mapLRow (Lab.dn (nodesAll hs).length) row).map (V.ren (backBox boxes b))) = [v2] := List.length_eq_one_iff.1 hl4
            rw [hv2] at z1 ⊢
            refine ⟨?_, rfl⟩
            simp only [RepRow] at z1
            obtain ⟨c, cs', f1, f2, g1, rfl, g3, rfl, rfl⟩ := z1
            simp only [List.cons.injEq, and_true] at g1
            subst g1
            simp only [T.back, TOk, List.append_nil]; exact g3
          · have hbk : T.back (.agg cur0) (back3 y.2 cur0 ((mapLRow (Lab.dn (nodesAll hs).length) row).map (V.ren (backBox boxes b)))) = .agg (back3 y.2 cur0 ((mapLRow (Lab.dn (nodesAll hs).length) row).map (V.ren (backBox boxes b)))) := by
              generalize back3 y.2 cur0 _ = q
              cases q with
              | nil => rfl
              | cons a q => cases q <;> rfl
            rw [hbk]
            exact ⟨by simp only [TOk]; exact ⟨a, h1, z1⟩, rfl⟩
      · refine ⟨g i, hI.nodup i, fun x hx => .inr ⟨hx, fun h => ?_⟩, fun _ => rfl, fun h => absurd h (by simp [hbx, hio])⟩
        obtain ⟨r, hr, h⟩ := r2 x h
        have hne : r ≠ i := by
          rintro rfl
          rcases hr with hr | hr
          · exact hbx hr
          · exact hio hr
        exact hI.disj r i hne x h hx
  obtain ⟨g1, hg1⟩ := Classical.axiomOfChoice each
  have hnd : (boxes ++ ios.map (·.1)).Nodup := by
    rw [List.nodup_append]
    exact ⟨S.boxNd, S.ioNd, fun a ha b hb e => S.ioBox b hb (by rw [← e]; exact ha)⟩
  have hdis : ∀ i j, i ≠ j → ∀ x ∈ g1 i, x ∉ g1 j := by
    intro i j hne x hx hx2
    rcases (hg1 i).2.1 x hx with ⟨n, F, h1, h2, h3⟩ | ⟨h1, h2⟩
    · rcases (hg1 j).2.1 x hx2 with ⟨m, G, k1, k2, k3⟩ | ⟨k1, k2⟩
      · have hnm : n ≠ m := by
          rintro rfl
          rw [h1] at k1; exact hne (Option.some.inj k1)
        exact hF2dis n m F G hnm h2 k2 x h3 k3
      · rcases (hF2own n F h2 x h3).2.2.2 with h | h
        · exact k2 h
        · have := (hI.own j x k1).2.2; omega
    · rcases (hg1 j).2.1 x hx2 with ⟨m, G, k1, k2, k3⟩ | ⟨k1, k2⟩
      · rcases (hF2own m G k2 x k3).2.2.2 with h | h
        · exact h2 h
        · have := (hI.own i x h1).2.2; omega
      · exact hI.disj i j hne x h1 k1
  have hget0 : ∀ i, i ∉ boxes → i ∉ ios.map (·.1) → s2.get i = s.get i := fun i h1 h2 => by rw [q1 i h2, p1 i h1]
  refine ⟨g1, hI.swap hst (H := fun i => i ∈ boxes ∨ i ∈ ios.map (·.1)) ?_ ?_ ?_ ?_ ?_ ?_ ?_, hst, ?_, ?_, ?_, hsame, hrows, hptr⟩
  · intro i hi
    exact ⟨hget0 i (fun h => hi (.inl h)) (fun h => hi (.inr h)), (hg1 i).2.2.1 hi⟩
  · intro i hi x hx
    have hxF : x ∉ (boxes.map g ++ FI).flatten := by
      intro h
      obtain ⟨r, hr, h⟩ := r2 x h
      have hne : r ≠ i := by rintro rfl; exact hi hr
      exact hI.disj r i hne x h hx
    obtain ⟨k1, k2, k3⟩ := hI.own i x hx
    exact ⟨(hsame x k3 hxF).1, (hsame x k3 hxF).2.2 k1⟩
  · intro i hi
    exact (hg1 i).2.2.2 hi
  · intro i hi x hx
    rcases (hg1 i).2.1 x hx with ⟨n, F, h1, h2, h3⟩ | ⟨h1, h2⟩
    · obtain ⟨k1, k2, k3, _⟩ := hF2own n F h2 x h3
      exact ⟨k1, k2, k3⟩
    · obtain ⟨k1, k2, k3⟩ := hI.own i x h1
      exact ⟨(hsame x k3 h2).2.2 k1, k2, Nat.lt_of_lt_of_le k3 D.size⟩
  · exact fun i _ => (hg1 i).1
  · exact fun i j hne _ => hdis i j hne
  · intro x hx
    exact hI.small x (Nat.le_trans D.size hx)
  · exact fun i h1 h2 => ⟨hget0 i h1 h2, (hg1 i).2.2.1 (by simp only [not_or]; exact ⟨h1, h2⟩)⟩
  · intro i
    by_cases hi : i ∈ boxes ∨ i ∈ ios.map (·.1)
    · obtain ⟨t0, v0, t1, v1, h1, h2, _⟩ := (hg1 i).2.2.2 hi
      rw [h1, h2]; rfl
    · rw [hget0 i (fun h => hi (.inl h)) (fun h => hi (.inr h))]
  · intro i x hx
    rcases (hg1 i).2.1 x hx with ⟨n, F, h1, h2, h3⟩ | h
    · refine .inl ⟨n, F, ?_, h2, h3⟩
      have := (List.getElem?_eq_some_iff.1 h1).1
      simpa using this
    · exact .inr h
end
end Pv

set_option linter.unusedVariables false
set_option linter.unusedSimpArgs false
namespace Pv
open Go
section
variable {P : Program} {E E2 E3 : Env} {w w2 : World} {β β2 : Nat → Option Nat} {s s2 : St} {tm : Array Value} {g g2 : Nat → List Nat} {cx : Cx} {C : Orc}
theorem RRes.solid {t : T} {cv : Value} {fts : List (List Nat)} (h : RRes E w β t cv fts) : (t.solid = true ∧ ∃ f, fts = [f] ∧ TOk E w β [] #[] t cv f) ∨ ∃ ts, t = .tup ts := by
  cases t with
  | tup ts => exact .inr ⟨ts, rfl⟩
  | _ => obtain ⟨f, h1, h2, h3⟩ := h; exact .inl ⟨h2, f, h1, h3⟩
theorem home_res {β3 : Nat → Option Nat} {m : Nat} {cN : Nat → Value} {fN : Nat → List Nat} {back : List (Nat × V)} {fB : List (List Nat)} {f : Nat → Nat} {t : T} {cv : Value} {fts : List (List Nat)}
    (H : Home E E2 E3 w β2 β3 m cN fN t.tops back fB f) (hR : RRes E2 w β2 t cv fts) (hn : fts.flatten.Nodup) (hd : ∀ b ∈ fB.flatten, b ∉ fts.flatten) :
    ∃ fts2 : List (List Nat), fts2.flatten.Nodup ∧ (∀ b ∈ fts2.flatten, b ∈ fts.flatten ∨ b ∈ fB.flatten) ∧ ∀ (s : St) (tm : Array Value), (match homeT m back f t with
      | .tup ts => ∃ vs : Array Value, cv = .tuple vs ∧ vs.size = ts.length ∧ fts2.length = ts.length ∧ ts.length ≤ 100 ∧ ts.all T.solid = true ∧
        ∀ (i : Nat) (t : T) (v : Value) (f : List Nat), ts[i]? = some t → vs[i]? = some v → fts2[i]? = some f → TOk E3 w β3 s tm t v f
      | t => ∃ f, fts2 = [f] ∧ TOk E3 w β3 s tm t cv f) := by
  obtain ⟨z1, z2⟩ := backF_nd (cN := cN) (tops := t.tops) (lo := 0) (hi := m) H.back.len H.back.nd
  rcases hR.solid with ⟨h1, f0, rfl, h3⟩ | ⟨ts, rfl⟩
  · simp only [List.flatten_cons, List.flatten_nil, List.append_nil] at hn hd ⊢
    have hrs : t.rowS = t.tops := by cases t <;> simp [T.solid] at h1 <;> rfl
    obtain ⟨k1, fp2, k2, k3, k4⟩ := home_solid H h1 (fun v hv => by rw [← hrs]; exact hv) (fun n hn => by rw [hrs]; have := (back_keys H.back hn).2.2.1; omega) hn hd h3
    refine ⟨[fp2], by simpa using k3, fun b hb => ?_, fun s tm => ?_⟩
    · simp only [List.flatten_cons, List.flatten_nil, List.append_nil] at hb
      rcases k4 b hb with h | ⟨n, _, _, h⟩
      · exact .inl h
      · exact .inr ((z1 n).2 b h)
    · cases t <;> simp [T.solid] at h1
      · exact ⟨fp2, rfl, tok_solid k1 k2⟩
      · exact ⟨fp2, rfl, tok_solid k1 k2⟩
  · obtain ⟨vs, e, h1, h2, h3, h4, h5⟩ := hR
    rw [homeT_tup]
    have htt := tops_tup ts
    obtain ⟨k1, fts2, k2, k3, k4, k5⟩ := home_parts H ts vs.toList fts h4 (fun v hv => by rw [htt]; exact hv) (fun n hn => by rw [← htt]; have := (back_keys H.back hn).2.2.1; omega) hn hd (by simpa using h1) h2
      (fun i t v f q1 q2 q3 => h5 i t v f q1 (by simpa using q2) q3)
    refine ⟨fts2, k4, fun b hb => ?_, fun s tm => ⟨vs, e, by simp [h1], by simp [k2], by simpa using h3, k1, fun i t v f q1 q2 q3 => ?_⟩⟩
    · rcases k5 b hb with h | ⟨n, _, _, h⟩
      · exact .inl h
      · exact .inr ((z1 n).2 b h)
    · exact tok_solid (List.all_eq_true.1 k1 t (List.mem_of_getElem? q1)) (k3 i t v f q1 (by simpa using q2) q3)
theorem RRes.ptr {t : T} {cv : Value} {fts : List (List Nat)} (h : RRes E w β t cv fts) {v : V} (hv : v ∈ t.tops) {r : Nat} (hr : r ∈ ptrsV v) : β r ≠ none := by
  have one : ∀ (t : T) (cv : Value) (f : List Nat), t.solid = true → TOk E w β [] #[] t cv f → v ∈ t.rowS → β r ≠ none := by
    intro t cv f hs h hv
    cases t <;> simp [T.solid] at hs
    · simp only [T.rowS, List.mem_singleton] at hv
      subst hv
      simp only [TOk] at h
      exact h.ptr hr
    · simp only [T.rowS] at hv
      simp only [TOk] at h
      obtain ⟨cs, _, h⟩ := h
      exact h.ptr (List.mem_flatMap.2 ⟨v, hv, hr⟩)
  rcases h.solid with ⟨h1, f0, _, h3⟩ | ⟨ts, rfl⟩
  · have hrs : t.rowS = t.tops := by cases t <;> simp [T.solid] at h1 <;> rfl
    exact one t cv f0 h1 h3 (by rw [hrs]; exact hv)
  · obtain ⟨vs, e, h1, h2, h3, h4, h5⟩ := h
    rw [tops_tup] at hv
    obtain ⟨t, ht, hv⟩ := List.mem_flatMap.1 hv
    obtain ⟨i, hi⟩ := List.getElem?_of_mem ht
    have hil := (List.getElem?_eq_some_iff.1 hi).1
    exact one t _ _ (List.all_eq_true.1 h4 t ht) (h5 i t (vs[i]'(by omega)) (fts[i]'(by omega)) hi (by simp) (by simp)) hv
theorem call_back {io : List Nat} {xs : List Operand} {Xs : List O} {hs : List (List V × Bool × Option Pl)} {ios : List (Nat × List V)} {args : List T} {caps : List V} {capv : List Value}
    {boxes : List Nat} {rows : List (List V)} {cN : Nat → Value} {fN : Nat → List Nat} {FI : List (List Nat)} (S : CallSt E w β s tm g io xs Xs hs ios args caps capv boxes rows cN fN FI)
    {t t2 : T} {ext2 : List (List V)} {cv : Value} {Ec : Env} {βc : Nat → Option Nat} {F2 fts : List (List Nat)}
    (D : BdOut (E.call (nodesAll hs).length cN fN) w (inB β boxes) io ((args ++ caps.map T.one).map (T.ren (intoBox boxes)))
      (rows.map (fun r => (mapLRow (Lab.up (nodesAll hs).length) r).map (V.ren (intoBox boxes))) ++ ios.map (fun x => (mapLRow (Lab.up (nodesAll hs).length) x.2).map (V.ren (intoBox boxes))))
      (xs.map (ev tm) ++ capv).toArray (boxes.map g ++ FI) t ext2 cv Ec w2 βc F2 fts)
    {b : Nat} {mv : Bool} {M : List (Nat × Nat)} (hb : isBox b = true) (hb1 : b < 10000) (hhb : cx.held b = false) (hhx : ∀ r ∈ boxes, cx.held r = false) (hhi : ∀ r ∈ ios.map (·.1), cx.held r = false)
    (hev : evBack s b mv hs ios boxes (nodesAll hs).length t ext2 = some (t2, s2, M)) : Out cx E w β s tm g t2 s2 cv w2 := by
  have hI := S.inv
  obtain ⟨r1, r2, r3⟩ := S.roots
  obtain ⟨b1, b2⟩ := rowsOf_ok S.rowsEq
  have hF : ∀ x ∈ (boxes.map g ++ FI).flatten, E.own x ∧ E.tag x = none ∧ x < w.heap.size := by
    intro x hx
    obtain ⟨r, _, h⟩ := r2 x hx
    exact hI.own r x h
  have hex : (rows.map (fun r => (mapLRow (Lab.up (nodesAll hs).length) r).map (V.ren (intoBox boxes))) ++ ios.map (fun x => (mapLRow (Lab.up (nodesAll hs).length) x.2).map (V.ren (intoBox boxes)))).length = boxes.length + ios.length := by
    simp only [List.length_append, List.length_map]; omega
  unfold evBack at hev
  simp only [] at hev
  split at hev
  · simp at hev
  rename_i hlow
  simp only [Bool.not_eq_true] at hlow
  split at hev
  case h_2 => simp at hev
  rename_i s1 hp1
  split at hev
  case h_2 => simp at hev
  rename_i sv hp2
  obtain ⟨g1, I1, hst, hkeep, hsome, hg1, hsame, hrows, hptr⟩ := call_vars S D hlow hp1 hp2
  have hnew : ∀ s3 new, (match ext2.drop (boxes.length + ios.length) with
        | [] => some (sv, ([] : List (Nat × Nat)))
        | [row] => (match sv.get b with
          | some _ => none
          | none => some (sv.set b (.agg ((mapLRow (Lab.dn (nodesAll hs).length) row).map (V.ren (backBox boxes b))), 0), [(b, 0)]))
        | _ => none) = some (s3, new) →
      ∃ β3 g3, Inv (E.behind Ec) w2 β3 s3 tm g3 ∧ (∀ r x, β r = some x → β3 r = some x) ∧ (∀ r, ExtR r → β3 r = β r) ∧ (∀ r, βc r ≠ none → β3 (backBox boxes b r) = βc r) ∧
        (∀ i, i ≠ b → s3.get i = sv.get i ∧ g3 i = g1 i) ∧ (∀ i, i ≠ b → β3 i = β i) ∧ (sv.get b ≠ none → s3 = sv) ∧ (∀ x ∈ g3 b, (x ∈ g1 b) ∨ ∃ F, F2[boxes.length + ios.length]? = some F ∧ x ∈ F) := by
    intro s3 new h
    split at h
    · rename_i hd
      simp only [Option.some.injEq, Prod.mk.injEq] at h
      obtain ⟨rfl, _⟩ := h
      refine ⟨β, g1, I1, fun _ _ h => h, fun _ _ => rfl, fun r hr => ?_, fun _ _ => ⟨rfl, rfl⟩, fun _ _ => rfl, fun _ => rfl, fun x hx => .inl hx⟩
      refine hptr r hr (fun e => ?_)
      subst e
      obtain ⟨x, hx⟩ := Option.ne_none_iff_exists'.1 hr
      rcases D.only 20000 x hx with ⟨j, row, hj, hrow, e⟩ | ⟨_, e⟩
      · rw [extAt_mp] at e
        rw [hex] at hj
        have hf := S.few
        have hl := S.ioLen
        split at e <;> omega
      · rw [hex] at e
        have : (ext2.drop (boxes.length + ios.length)).length = 1 := by rw [List.length_drop]; omega
        rw [hd] at this; simp at this
    · rename_i row hd
      split at h
      · simp at h
      rename_i hn
      simp only [Option.some.injEq, Prod.mk.injEq] at h
      obtain ⟨rfl, _⟩ := h
      have hrow : ext2[boxes.length + ios.length]? = some row := by
        have : (ext2.drop (boxes.length + ios.length))[0]? = some row := by rw [hd]; rfl
        rw [List.getElem?_drop] at this; exact this
      have hlt := (List.getElem?_eq_some_iff.1 hrow).1
      obtain ⟨F, hFn⟩ : ∃ F, F2[boxes.length + ios.length]? = some F := ⟨F2[boxes.length + ios.length]'(by rw [D.nF]; exact hlt), by simp⟩
      obtain ⟨hB, hmp⟩ := D.new row F (by rw [hex]; exact hrow) (by rw [hex]; exact hFn)
      rw [brow_agg hmp] at hB
      obtain ⟨blk, cs, f0, z1, rfl, z3, z4, z5, z6⟩ := hB
      have hrep := hrows row (cs, f0) z3 (List.mem_of_getElem? hrow)
      have hmem : ∀ x ∈ blk :: f0, x ∈ (F2 ++ fts).flatten := fun x hx => by
        rw [List.flatten_append]
        exact List.mem_append.2 (.inl (List.mem_flatten.2 ⟨_, List.mem_of_getElem? hFn, hx⟩))
      have hnd : F2.flatten.Nodup := by
        have := D.nd
        rw [List.flatten_append] at this
        exact (List.nodup_append.1 this).1
      have hI3 := I1.addBox hb hn hrep z4 z5 ((List.pairwise_flatten.1 hnd).1 _ (List.mem_of_getElem? hFn)) (fun x hx => by
        obtain ⟨k1, k2, k3⟩ := D.own x (hmem x hx)
        refine ⟨k1, ?_, k3⟩
        show E.tag x = none
        rcases D.sub x (hmem x hx) with h | h
        · exact (hF x h).2.1
        · exact hI.small x h) (fun i x hx hxi => by
        rcases hg1 i x hxi with ⟨n, G, h1, h2, h3⟩ | ⟨h1, h2⟩
        · have hp := (List.pairwise_flatten.1 hnd).2
          rw [List.pairwise_iff_getElem] at hp
          obtain ⟨e1, e2⟩ := List.getElem?_eq_some_iff.1 h2
          obtain ⟨e3, e4⟩ := List.getElem?_eq_some_iff.1 hFn
          have := hp n _ e1 e3 h1
          rw [e2, e4] at this
          exact this x h3 x hx rfl
        · rcases D.sub x (hmem x hx) with h | h
          · exact h2 h
          · have := (hI.own i x h1).2.2; omega)
      have hβb : β b = none := I1.noBox hn
      refine ⟨_, _, hI3, fun r x h => ?_, fun r hr => ?_, fun r hr => ?_, fun i hi => ⟨get_set_ne _ _ (fun e => hi e.symm), if_neg hi⟩, fun i hi => if_neg hi, fun h => absurd hn h, fun x hx => .inr ⟨_, hFn, by simpa using hx⟩⟩
      · have : r ≠ b := by rintro rfl; rw [hβb] at h; simp at h
        simp only [if_neg this]; exact h
      · have : r ≠ b := by rintro rfl; rcases hr with hr | hr <;> omega
        simp only [if_neg this]
      · by_cases h2 : r = 20000
        · subst h2
          have e : backBox boxes b 20000 = b := by simp [backBox]
          rw [e]
          simp only [if_true]
          exact z1.symm
        · have := hptr r hr h2
          by_cases e : backBox boxes b r = b
          · rw [e, hβb] at this
            exact absurd this.symm hr
          · simp only [if_neg e]; exact this
    · simp at h
  split at hev
  case h_2 => simp at hev
  rename_i s3 new hs3
  obtain ⟨β3, g3, I3, hβ3, hext3, hren3, hget3, hβne, hsvb, hg3b⟩ := hnew s3 new hs3
  have hg3 : ∀ i x, x ∈ g3 i → (∃ F ∈ F2, x ∈ F) ∨ (x ∈ g i ∧ x ∉ (boxes.map g ++ FI).flatten) := by
    intro i x hx
    have h1 : x ∈ g1 i ∨ ∃ F, F2[boxes.length + ios.length]? = some F ∧ x ∈ F := by
      by_cases e : i = b
      · subst e; exact hg3b x hx
      · rw [(hget3 i e).2] at hx; exact .inl hx
    rcases h1 with h | ⟨F, h, h2⟩
    · rcases hg1 i x h with ⟨n, G, _, h2, h3⟩ | h
      · exact .inl ⟨G, List.mem_of_getElem? h2, h3⟩
      · exact .inr h
    · exact .inl ⟨F, List.mem_of_getElem? h, h2⟩
  have hftsF2 : ∀ x ∈ fts.flatten, ∀ F ∈ F2, x ∉ F := by
    intro x hx F hF h
    have := D.nd
    rw [List.flatten_append, List.nodup_append] at this
    exact this.2.2 x (List.mem_flatten.2 ⟨F, hF, h⟩) x hx rfl
  have hftsg : ∀ i, ∀ x ∈ fts.flatten, x ∉ g3 i := by
    intro i x hx hxi
    rcases hg3 i x hxi with ⟨F, h1, h2⟩ | ⟨h1, h2⟩
    · exact hftsF2 x hx F h1 h2
    · rcases D.sub x (by rw [List.flatten_append]; exact List.mem_append.2 (.inr hx)) with h | h
      · exact h2 h
      · have := (hI.own i x h1).2.2; omega
  have hftsnd : fts.flatten.Nodup := by
    have := D.nd
    rw [List.flatten_append, List.nodup_append] at this
    exact this.2.1
  have hnode : ∀ (n : Nat) (x : Pl × V), (nodesAll hs)[n]? = some x → s3.cell x.1 = some x.2 ∧ plVal w2 β3 tm x.1 = some (cN n) ∧ Rep (E.behind Ec) w2 β3 x.2 (cN n) (fN n) := by
    intro n x hx
    have hN := S.nodes n x hx
    have hl := S.lent x.1.r (nodes_root hs n x hx)
    obtain ⟨r0, o0, hp, _⟩ := cell_place hN.cell
    have hgs : sv.get x.1.r = s.get x.1.r := (hkeep _ hl.1 hl.2).1
    have hg3e : s3.get x.1.r = s.get x.1.r := by
      by_cases e : x.1.r = b
      · obtain ⟨t0, row0, q1, _⟩ := place_some hp
        have : sv.get b ≠ none := by rw [← e, hgs, q1]; simp
        rw [hsvb this, hgs]
      · rw [(hget3 _ e).1, hgs]
    have hheap : ∀ y ∈ g x.1.r, w2.heap[y]? = w.heap[y]? := by
      intro y hy
      refine (hsame y (hI.own _ y hy).2.2 (fun h => ?_)).1
      obtain ⟨r, hr, h⟩ := r2 y h
      have hne : r ≠ x.1.r := by
        rintro rfl
        rcases hr with hr | hr
        · exact hl.1 hr
        · exact hl.2 hr
      exact hI.disj r x.1.r hne y h hy
    refine ⟨by rw [cell_congr hg3e]; exact hN.cell, ?_, ?_⟩
    · rw [(hI.val_same hβ3 hp hheap (fun _ => rfl)).1]; exact hN.val
    · exact hN.rep.frame hst hβ3 _ _ _ (fun y hy => hheap y (hN.sub y hy))
  have fin : ∀ (E3 : Env) (g4 : Nat → List Nat) (back : List (Nat × V)) (fB : List (List Nat)) (s4 : St), Inv E3 w2 β3 s4 tm g4 → StlR (E.behind Ec) s3 g3 E3 s4 g4 (· ∈ lentRoots hs) →
      Back E3 w2 β3 cN t.tops 0 (nodesAll hs).length back fB → (∀ b ∈ fB.flatten, E3.own b ∧ (∃ r ∈ lentRoots hs, b ∈ g3 r) ∧ ∀ i, b ∉ g4 i) →
      (∀ n, n < (nodesAll hs).length → (lentIn n t.tops ≠ 0 ∨ partIn n t.tops = true) → (∀ x ∈ back, x.1 ≠ n) → ∀ b ∈ fN n, ¬ E3.own b) →
      t2 = homeT (nodesAll hs).length back (backBox boxes b) t → s4 = s2 → Out cx E w β s tm g t2 s2 cv w2 := by
    intro E3 g4 back fB s4 I4 hS hB hfB hro ht hs4
    subst hs4
    have H : Home E Ec E3 w2 βc β3 (nodesAll hs).length cN fN t.tops back fB (backBox boxes b) := by
      refine ⟨home_turn D.tag D.hdr hS.tag hS.hdr (fun x hx => hS.shr x hx) (fun n hn h1 h2 => hro n hn h1 (fun x hx e => h2 (List.mem_map.2 ⟨x, hx, e⟩))), hB, fun n hn => ?_, fun v hv r hr => hren3 r (D.res.ptr hv hr)⟩
      rw [D.hdr]; simp only [Env.call]; rw [if_pos hn]
    have hdis : ∀ x ∈ fB.flatten, x ∉ fts.flatten := by
      intro x hx hx2
      obtain ⟨_, ⟨r, _, h⟩, _⟩ := hfB x hx
      exact hftsg r x hx2 h
    obtain ⟨fts2, k1, k2, k3⟩ := home_res H D.res hftsnd hdis
    have hfts2 : ∀ x ∈ fts2.flatten, E3.own x ∧ E3.tag x = none ∧ x < w2.heap.size ∧ (∀ i, x ∉ g4 i) ∧ ((∃ j, x ∈ g j) ∨ w.heap.size ≤ x) := by
      intro x hx
      rcases k2 x hx with h | h
      · have hm : x ∈ (F2 ++ fts).flatten := by rw [List.flatten_append]; exact List.mem_append.2 (.inr h)
        obtain ⟨e1, e2, e3⟩ := D.own x hm
        have hsub : (∃ j, x ∈ g j) ∨ w.heap.size ≤ x := by
          rcases D.sub x hm with h | h
          · obtain ⟨r, _, h⟩ := r2 x h
            exact .inl ⟨r, h⟩
          · exact .inr h
        refine ⟨hS.keep x e1 (fun r _ h2 => hftsg r x h h2), ?_, e3, fun i hi => hftsg i x h (hS.sub i x hi), hsub⟩
        rw [hS.tag]
        show E.tag x = none
        rcases hsub with ⟨j, h⟩ | h
        · exact (hI.own j x h).2.1
        · exact hI.small x h
      · obtain ⟨e1, ⟨r, _, e2⟩, e3⟩ := hfB x h
        obtain ⟨_, e4, e5⟩ := I3.own r x e2
        refine ⟨e1, by rw [hS.tag]; exact e4, e5, e3, ?_⟩
        rcases hg3 r x e2 with ⟨F, h1, h2⟩ | ⟨h1, _⟩
        · rcases D.sub x (by rw [List.flatten_append]; exact List.mem_append.2 (.inl (List.mem_flatten.2 ⟨F, h1, h2⟩))) with h | h
          · obtain ⟨r', _, h⟩ := r2 x h
            exact .inl ⟨r', h⟩
          · exact .inr h
        · exact .inl ⟨r, h1⟩
    refine ⟨E3, β3, g4, fts2, I4, ?_, ⟨k1, fun x hx => ⟨(hfts2 x hx).1, (hfts2 x hx).2.1, (hfts2 x hx).2.2.1⟩, fun i x hx => (hfts2 x hx).2.2.2.1 i, ?_⟩, ?_⟩
    · refine ⟨D.wf, D.size, fun x hx hn => ?_, fun x hx ho => ?_, by rw [hS.tag]; rfl, by rw [hS.hdr]; rfl, fun i x hx => ?_, fun x hx => (hfts2 x hx).2.2.2.2, fun r hr => hext3 r hr⟩
      · have hnF : x ∉ (boxes.map g ++ FI).flatten := fun h => by
          obtain ⟨r, _, h⟩ := r2 x h
          exact hn r h
        obtain ⟨e1, e2⟩ := hsame x hx hnF
        refine ⟨e1, fun h => e2.1 (hS.shr x h), fun h => hS.keep x (e2.2 h) (fun r hr h2 => ?_)⟩
        rcases hg3 r x h2 with ⟨F, h3, h4⟩ | ⟨h3, _⟩
        · rcases D.sub x (by rw [List.flatten_append]; exact List.mem_append.2 (.inl (List.mem_flatten.2 ⟨F, h3, h4⟩))) with h | h
          · exact hnF h
          · omega
        · exact hn r h3
      · exact D.shr x hx (hS.shr x ho)
      · have h3 := hS.sub i x hx
        rcases hg3 i x h3 with ⟨F, h1, h2⟩ | ⟨h1, _⟩
        · rcases D.sub x (by rw [List.flatten_append]; exact List.mem_append.2 (.inl (List.mem_flatten.2 ⟨F, h1, h2⟩))) with h | h
          · obtain ⟨r', _, h⟩ := r2 x h
            exact .inl ⟨r', h⟩
          · exact .inr h
        · exact .inl ⟨i, h1⟩
    · rw [ht]; exact k3 _ tm
    · intro hp
      refine hp.step (fun r hr hbr hs => ?_)
      have hrb : r ≠ b := by rintro rfl; rw [hhb] at hr; simp at hr
      have hrx : r ∉ boxes := fun h => by have := hhx r h; rw [hr] at this; simp at this
      have hri : r ∉ ios.map (·.1) := fun h => by have := hhi r h; rw [hr] at this; simp at this
      have hsome3 : (s.get r).isSome := by
        rw [hS.ger r, (hget3 r hrb).1, (hkeep r hrx hri).1] at hs
        exact hs
      refine ⟨hsome3, fun j => ?_⟩
      simp only [topVal, hbr, if_true, hβne r hrb]
      cases hβ : β r with
      | none => rfl
      | some blk =>
        simp only []
        obtain ⟨y, hy⟩ := Option.isSome_iff_exists.1 hsome3
        have := hI.roots r y.1 y.2 hy
        simp only [RootOk, hbr, if_true] at this
        obtain ⟨b', cs', f', row', q1, _, q3, _, _, _, q7⟩ := this
        rw [hβ] at q1
        obtain rfl := Option.some.inj q1
        refine cell_same (hsame blk q7 (fun h => ?_)).1 j
        obtain ⟨r', hr', h⟩ := r2 blk h
        have hne : r' ≠ r := by
          rintro rfl
          rcases hr' with hr' | hr'
          · exact hrx hr'
          · exact hri hr'
        exact hI.disj r' r hne blk h (by rw [q3]; exact List.mem_cons_self)
  split at hev
  · rename_i hno
    simp only [Option.some.injEq, Prod.mk.injEq] at hev
    obtain ⟨h1, h2, _⟩ := hev
    refine fin (E.behind Ec) g3 [] [] s3 I3 (StlR.refl _ _ _ _) (Back.nil _ _ _ _ _ _ _) (by simp) (fun n hn h => ?_) h1.symm h2
    obtain ⟨k1, k2⟩ := not_low hno hn
    rcases h with h | h
    · exact absurd k1 h
    · rw [k2] at h; simp at h
  · split at hev
    · simp at hev
    rename_i hnd
    split at hev
    case h_2 => simp at hev
    rename_i s4 lents hset
    simp only [Option.some.injEq, Prod.mk.injEq] at hev
    obtain ⟨h1, h2, _⟩ := hev
    obtain ⟨E3, g4, fB, k1, k2, k3, k4, k5⟩ := settle_all (cN := cN) (fN := fN) hs 0 (E.behind Ec) s3 g3 I3 hset (by simpa using hnd) (fun j x hx => by
      rw [Nat.zero_add]
      obtain ⟨q1, q2, q3⟩ := hnode j x hx
      exact ⟨q1, q2, _, _, q3⟩)
    rw [Nat.zero_add] at k3 k5
    exact fin E3 g4 lents fB s4 k1 k2 k3 k4 (fun n hn => k5 n (Nat.zero_le _) hn) h1.symm h2
end
end Pv

set_option linter.unusedVariables false
set_option linter.unusedSimpArgs false
namespace Pv
open Go
section
variable {P : Program} {E E2 E3 : Env} {w w2 : World} {β β2 : Nat → Option Nat} {s s2 : St} {tm : Array Value} {g g2 : Nat → List Nat} {cx : Cx} {C : Orc}
theorem run_callFunc {f : Nat} {args : Array Value} (h : FnOk P f) : (callFunc f args).run P w = .ok (.enter f args) w := by
  obtain ⟨fn, h1, h2, h3⟩ := h
  have hb : fn.body.isNone = false := by
    cases hb : fn.body with
    | none => rw [hb] at h3; simp at h3
    | some x => rfl
  have hn : (fn.name == "runtime.NumGoroutine") = false := by simpa using h2
  unfold callFunc
  simp [h1]
  rw [if_neg h2, if_neg (by intro h; rw [h] at h3; simp at h3)]
theorem a_call (hC : SoundC P C) (hI : Inv E w β s tm g) {o : Oper} {c : Call} {xf : Operand} (hop : o.op = .call c) (hc : c.callee = .value xf) {io : List Nat} {d : Nat} {mv : Bool} {f : O} {as : List O} {t : T} {M : List (Nat × Nat)} (hd : d < 5000)
    (hf : OpdOk xf f) (hx : OpdsOk c.args.toList as) (hev : evIns C cx s (.call io (5000 + d) mv) (f :: as) = some (t, s2, M)) :
    ∃ fid args, (execOp (ev tm) o).run P w = .ok (.enter fid args) w ∧ Calls P fid args w fun e w2 => ∃ cv, e = .returned cv ∧ Out cx E w β s tm g t s2 cv w2 := by
  simp only [evIns, evCall] at hev
  split at hev
  case h_2 => simp at hev
  rename_i gf caps hfv
  obtain ⟨fp, h1, _⟩ := opd_tok hI hf hfv
  simp only [TOk, Rep] at h1
  obtain ⟨_, xs0, ys, he, hr0, hcaps⟩ := h1
  have hxs0 : xs0 = #[] := by
    simp only [RepPs] at hr0
    exact Array.toList_eq_nil_iff.1 hr0
  subst hxs0
  split at hev
  case h_2 => simp at hev
  rename_i hs ios hhs hios
  split at hev
  case h_2 => simp at hev
  rename_i args hargs
  split at hev
  · simp at hev
  rename_i hchk
  simp only [Bool.not_eq_true, Bool.or_eq_false_iff, Bool.not_eq_false', decide_eq_false_iff_not, decide_eq_true_eq] at hchk
  obtain ⟨⟨⟨⟨⟨⟨⟨⟨⟨c1, c2⟩, c3⟩, c4⟩, c5⟩, c6⟩, c7⟩, c8⟩, c9⟩, c10⟩ := hchk
  split at hev
  case h_2 => simp at hev
  rename_i rows hrows
  split at hev
  · simp at hev
  rename_i hcls
  simp only [Bool.not_eq_true, Bool.not_eq_false'] at hcls
  split at hev
  case h_2 => simp at hev
  rename_i tr rows' hcall
  rw [← nodesAll_len] at hargs hcall hev
  obtain ⟨cN, fN, hN⟩ := nodes_ok hI hx hhs
  obtain ⟨ioL, FI, fiL, hio⟩ := takeIo_ok hI hx hios
  have hany : ∀ {l : List Nat} {q : Nat → Bool}, l.any q = false → ∀ r ∈ l, q r = false := by
    intro l q h r hr
    have := List.any_eq_false.1 h r hr
    simpa using this
  have hcls' : ∀ r ∈ (args ++ caps.map T.one).flatMap ptrsT ++ rows.flatMap ptrRow, r ∈ reach s 100 ((args ++ caps.map T.one).flatMap ptrsT) [] := by
    intro r hr
    have := List.all_eq_true.1 hcls r hr
    simpa using this
  have S : CallSt E w β s tm g io c.args.toList as hs ios args caps ys.toList (reach s 100 ((args ++ caps.map T.one).flatMap ptrsT) []) rows cN fN FI := by
    refine ⟨hI, hx, hhs, hargs, hcaps, hrows, hN, ioL, fiL, hio, fun r hr => ?_, fun r hr => ?_, c3, c4, by omega, fun y hy => ?_, c10, fun t ht r hr => ?_, fun row hrow r hr => ?_⟩
    · have := hany c1 r hr
      simp only [Bool.or_eq_false_iff, List.contains_eq_mem, decide_eq_false_iff_not] at this
      exact this
    · have := hany c2 r hr
      simpa using this
    · exact List.all_eq_true.1 c9 y hy
    · exact hcls' r (List.mem_append.2 (.inl (List.mem_flatMap.2 ⟨t, ht, hr⟩)))
    · exact hcls' r (List.mem_append.2 (.inr (List.mem_flatMap.2 ⟨row, hrow, hr⟩)))
  obtain ⟨hfn, hSC⟩ := hC gf io _ _ tr rows' hcall
  refine ⟨gf, _, ?_, (hSC _ w _ _ _ (bd_in S)).mono ?_⟩
  · simp only [execOp, hop, resolve, hc, he, Deferred.ofValue]
    simp only [Sem.run_bind, Sem.run_pure, Result.andThen_ok, invoke]
    rw [run_callFunc hfn]
    congr 2
    apply Array.ext'
    simp
  · rintro e w2 ⟨cv, Ec, βc, F2, fts, rfl, D⟩
    refine ⟨cv, rfl, call_back S D (b := 5000 + d) (by simp [isBox]; omega) (by omega) c8 (hany c6) (hany c7) hev⟩
end
end Pv

set_option linter.unusedVariables false
set_option linter.unusedSimpArgs false
namespace Pv
open Go
def eqSca : Value → Value → Bool
  | .bool a, .bool b => a == b
  | .int k a, .int j b => k == j && a == b
  | .string a, .string b => a.data.toList == b.data.toList
  | .nilFunc, .nilFunc => true
  | .nilIface, .nilIface => true
  | .pointer none, .pointer none => true
  | .map none, .map none => true
  | _, _ => false
def okCell : V → Value → Bool
  | .sc x, v => eqSca x v
  | .sl .own _ [], .slice none 0 0 => true
  | _, _ => false
def okCells : List V → List Value → Bool
  | [], [] => true
  | a :: r, b :: q => okCell a b && okCells r q
  | _, _ => false
def okCst : T → Value → Bool
  | .one (.clo f [] []), .func (.func g) fs cs => f == g && fs.isEmpty && cs.isEmpty
  | .one .dead, _ => true
  | .one x, v => okCell x v
  | .agg row, .agg cs => okCells row cs.toList
  | _, _ => false
def okOpd : Operand → O → Bool
  | .tmp i, .t j => i == j && decide (i < 5000)
  | .const v, .c t => okCst t v
  | .func f, .c (.one (.clo g [] [])) => f == g
  | _, _ => false
def okOpds : List Operand → List O → Bool
  | [], [] => true
  | a :: r, b :: q => okOpd a b && okOpds r q
  | _, _ => false
theorem eqSca_ok {x v : Value} (h : eqSca x v = true) : v = x ∧ isSca x = true := by
  unfold eqSca at h
  split at h
  · simp only [beq_iff_eq] at h; subst h; exact ⟨rfl, rfl⟩
  · simp only [Bool.and_eq_true, beq_iff_eq] at h
    obtain ⟨rfl, rfl⟩ := h; exact ⟨rfl, rfl⟩
  · rename_i a b
    have : a = b := by
      cases a with | mk da => cases b with | mk db =>
        simp only [beq_iff_eq] at h
        simp only [ByteArray.mk.injEq]
        exact Array.ext' h
    subst this; exact ⟨rfl, rfl⟩
  · exact ⟨rfl, rfl⟩
  · exact ⟨rfl, rfl⟩
  · exact ⟨rfl, rfl⟩
  · exact ⟨rfl, rfl⟩
  · simp at h
theorem okCell_ok {x : V} {v : Value} (h : okCell x v = true) : CellOk x v := by
  unfold okCell at h
  split at h
  · exact eqSca_ok h
  · exact ⟨rfl, rfl, rfl⟩
  · simp at h
theorem okCells_ok : ∀ {x : List V} {v : List Value}, okCells x v = true → CellsOk x v
  | [], [], _ => trivial
  | a :: r, b :: q, h => by
    simp only [okCells, Bool.and_eq_true] at h
    exact ⟨okCell_ok h.1, okCells_ok h.2⟩
  | [], _ :: _, h => by simp [okCells] at h
  | _ :: _, [], h => by simp [okCells] at h
theorem okCst_ok {t : T} {v : Value} (h : okCst t v = true) : CstOk t v := by
  unfold okCst at h
  split at h
  · simp only [Bool.and_eq_true, beq_iff_eq, Array.isEmpty_iff] at h
    obtain ⟨⟨rfl, rfl⟩, rfl⟩ := h
    simp only [CstOk]
  · simp only [CstOk]
  · have := okCell_ok h
    rename_i x _ _
    cases x <;> first | exact this | exact this.elim
  · exact okCells_ok h
  · simp at h
theorem okOpd_ok {x : Operand} {X : O} (h : okOpd x X = true) : OpdOk x X := by
  unfold okOpd at h
  split at h
  · simp only [Bool.and_eq_true, beq_iff_eq, decide_eq_true_eq] at h; exact h
  · exact okCst_ok h
  · simp only [beq_iff_eq] at h; subst h; rfl
  · simp at h
theorem okOpds_ok : ∀ {xs : List Operand} {Xs : List O}, okOpds xs Xs = true → OpdsOk xs Xs
  | [], [], _ => trivial
  | a :: r, b :: q, h => by
    simp only [okOpds, Bool.and_eq_true] at h
    exact ⟨okOpd_ok h.1, okOpds_ok h.2⟩
  | [], _ :: _, h => by simp [okOpds] at h
  | _ :: _, [], h => by simp [okOpds] at h
def okZero (P : Program) (t : TypeId) (zero : List V) : Bool := match P.info? t with
  | some i => (match i.zero with | some z => okCells zero z.cells.toList | none => false)
  | none => false
def sizeIs (P : Program) (t : TypeId) (n : Nat) : Bool := match P.info? t with | some i => i.size == n | none => false
def sizeOne (P : Program) (t : TypeId) : Bool := match P.underlying t with | some d => !isAggD d | none => false
def aggIs (P : Program) (t : TypeId) (n : Nat) : Bool := (match P.underlying t with | some d => isAggD d | none => false) && sizeIs P t n
def placesOf (P : Program) (fs : List Field) : Option (List (Nat × Nat)) := fs.mapM fun f => (P.info? f.type).map fun i => (f.offset, i.size)
def okOp (P : Program) (o : Oper) (k : K) (xs : List O) : Bool :=
  match o.op, k, xs with
  | .move x, .move, [X] => okOpd x X
  | .assign x, .assign _, [X] => okOpd x X
  | .pick c a b, .pick, [C, A, B] => okOpd c C && okOpd a A && okOpd b B
  | .binOp op ty x y _, .bin op', [X, Y] => decide (op = op') && okOpd x X && okOpd y Y
  | .binOp op ty x y _, .binB neg, [X, Y] => decide (op = if neg then .neq else .eql) && (match P.underlying ty with | some .bool => true | _ => false) && okOpd x X && okOpd y Y
  | .binOp op ty x y _, .eq neg ks, [X, Y] => decide (op = if neg then .neq else .eql) && eqOk P ty ks && okOpd x X && okOpd y Y
  | .unOp op _ x, .un op', [X] => decide (op = op') && okOpd x X
  | .convert src dst x, .conv k, [X] => (P.underlying src).isSome && (match P.underlying dst with | some (.int k') => decide (k = k') | _ => false) && okOpd x X
  | .alloc e, .alloc b row, [] => (match o.dst with | some d => decide (b = 5000 + d) && decide (d < 5000) | none => false) && okZero P e row
  | .box _ x, .box b, [X] => (match o.dst with | some d => decide (b = 5000 + d) && decide (d < 5000) | none => false) && okOpd x X
  | .fieldAddr sT x i, .fld off, [X] => (match P.underlying sT with
    | some (.struct fs) => (match fs[i]? with
      | some f => f.offset == off && (match P.info? f.type with | some fi => fi.size != 0 | none => false)
      | none => false)
    | _ => false) && okOpd x X
  | .indexAddr tT x y, .ida sz, [X, Y] => (match P.underlying tT with | some (.slice e) => sizeIs P e sz | _ => false) && okOpd x X && okOpd y Y
  | .indexAddr tT x y, .idarr len sz, [X, Y] => (match P.underlying tT with | some (.array n e) => n == len && sizeIs P e sz | _ => false) && okOpd x X && okOpd y Y
  | .load ty x, .load none, [X] => sizeOne P ty && okOpd x X
  | .load ty x, .load (some n), [X] => aggIs P ty n && okOpd x X
  | .store ty a x, .store _ n, [A, X] => sizeIs P ty n && okOpd a A && okOpd x X
  | .field sT x i, .fieldV off none, [X] => (match P.underlying sT with
    | some (.struct fs) => (match fs[i]? with
      | some f => f.offset == off && sizeOne P f.type
      | none => false)
    | _ => false) && okOpd x X
  | .field sT x i, .fieldV off (some n), [X] => (match P.underlying sT with
    | some (.struct fs) => (match fs[i]? with
      | some f => f.offset == off && aggIs P f.type n
      | none => false)
    | _ => false) && okOpd x X
  | .index tT x y, .idxV len sz none, [X, Y] => (match P.underlying tT with | some (.array n e) => n == len && sizeIs P e sz && sizeOne P e | _ => false) && okOpd x X && okOpd y Y
  | .index tT x y, .idxS, [X, Y] => (match P.underlying tT with | some .string => true | _ => false) && okOpd x X && okOpd y Y
  | .build ty parts, .build zero pos, Xs => (match P.underlying ty with
    | some (.struct fs) => (match placesOf P fs.toList with
      | some places => (parts.toList.map fun p => places[p.1]?) == pos.map some
      | none => false)
    | _ => false) && okZero P ty zero && okOpds (parts.toList.map (·.2)) Xs
  | .buildSlice ty len parts, .bsl sz zero len' idx, Xs => (match P.underlying ty with | some (.slice e) => sizeIs P e sz && okZero P e zero | _ => false) && len == len' && decide (len * sz ≤ 2 ^ 24) && decide (parts.toList.map (·.1) = idx) && okOpds (parts.toList.map (·.2)) Xs
  | .makeSlice ty l c, .mks sz zero bytes, [L, L2] => (match P.underlying ty with | some (.slice e) => sizeIs P e sz && okZero P e zero && (match P.info? e with | some i => i.bytes == bytes && i.bytes != 0 | none => false) | _ => false) && okOpd l L && okOpd c L2
  | .slice tT x lo hi mx, .slc sz lo' hi' mx', X :: Xs => (match P.underlying tT with | some (.slice e) => sizeIs P e sz | _ => false) && lo.isSome == lo' && hi.isSome == hi' && mx.isSome == mx' && (!mx.isSome || hi.isSome) && okOpd x X && okOpds (lo.toList ++ hi.toList ++ mx.toList) Xs
  | .extract (.tmp d) i, .ext i', [.t d'] => i == i' && d == d' && decide (d < 5000) && decide (i < 100)
  | .makeFunc (.func f) fs cs, .mkf f' n, Xs => f == f' && fs.size == n && okOpds (fs.toList ++ cs.toList) Xs
  | .nilCheck x, .nilchk, [X] => okOpd x X
  | .call c, .app sz bytes, [X, Y] => (match c.callee with | .builtin .append => true | _ => false) && (match c.args.toList, c.argTypes.toList with
    | [x, y], [t1, t2] => okOpd x X && okOpd y Y && (match P.underlying t1, P.underlying t2 with
      | some (.slice e), some (.slice _) => (match P.info? e with
        | some i => i.size == sz && i.bytes == bytes && i.bytes != 0 && (match i.zero with | some z => z.cells.size == i.size | none => false)
        | none => false)
      | _, _ => false)
    | _, _ => false)
  | .call c, .len, [X] => (match c.callee with | .builtin .len => true | _ => false) && (match c.args.toList, c.argTypes[0]? with
    | [x], some ty => okOpd x X && (match P.underlying ty with | some (.slice _) => true | _ => false)
    | _, _ => false)
  | .call c, .lenS, [X] => (match c.callee with | .builtin .len => true | _ => false) && (match c.args.toList, c.argTypes[0]? with
    | [x], some ty => okOpd x X && (match P.underlying ty with | some .string => true | _ => false)
    | _, _ => false)
  | .call c, .lenC n, [_] => (match c.callee with | .builtin .len => true | _ => false) && (match c.args.toList, c.argTypes[0]? with
    | [_], some ty => (match P.underlying ty with | some (.array m _) => m == n | _ => false)
    | _, _ => false)
  | .call c, .mn, [X, Y] => (match c.callee with | .builtin .min => true | _ => false) && (match c.args.toList with
    | [x, y] => okOpd x X && okOpd y Y
    | _ => false)
  | .call c, .mx, [X, Y] => (match c.callee with | .builtin .max => true | _ => false) && (match c.args.toList with
    | [x, y] => okOpd x X && okOpd y Y
    | _ => false)
  | .call c, .call _ b _, f :: as => (match c.callee with | .value xf => okOpd xf f | _ => false) && (match o.dst with | some d => decide (b = 5000 + d) && decide (d < 5000) | none => false) && okOpds c.args.toList as
  | _, _, _ => false
def DoesX (P : Program) (cx : Cx) (E : Env) (w : World) (β : Nat → Option Nat) (s : St) (tm : Array Value) (g : Nat → List Nat) (o : Oper) (t : T) (s2 : St) : Prop :=
  Does P cx E w β s tm g o t s2 ∨ ∃ fid args, (execOp (ev tm) o).run P w = .ok (.enter fid args) w ∧ Calls P fid args w fun e w2 => ∃ cv, e = .returned cv ∧ Out cx E w β s tm g t s2 cv w2
section
variable {P : Program} {E E2 E3 : Env} {w w2 : World} {β β2 : Nat → Option Nat} {s s2 : St} {tm : Array Value} {g g2 : Nat → List Nat} {cx : Cx} {C : Orc}
theorem okZero_ok {t : TypeId} {zero : List V} (h : okZero P t zero = true) : ∃ i z, P.info? t = some i ∧ i.zero = some z ∧ CellsOk zero z.cells.toList := by
  unfold okZero at h
  split at h
  · rename_i i hi
    split at h
    · rename_i z hz; exact ⟨i, z, hi, hz, okCells_ok h⟩
    · simp at h
  · simp at h
theorem sizeIs_ok {t : TypeId} {n : Nat} (h : sizeIs P t n = true) : ∃ i, P.info? t = some i ∧ i.size = n := by
  unfold sizeIs at h
  split at h
  · rename_i i hi; exact ⟨i, hi, by simpa using h⟩
  · simp at h
theorem sizeOne_ok {t : TypeId} (h : sizeOne P t = true) : ∃ d, P.underlying t = some d ∧ isAggD d = false := by
  unfold sizeOne at h
  split at h
  · rename_i d hd; exact ⟨d, hd, by simpa using h⟩
  · simp at h
theorem aggIs_ok {t : TypeId} {n : Nat} (h : aggIs P t n = true) : ∃ d i, P.underlying t = some d ∧ isAggD d = true ∧ P.info? t = some i ∧ i.size = n := by
  unfold aggIs at h
  simp only [Bool.and_eq_true] at h
  obtain ⟨h1, h2⟩ := h
  obtain ⟨i, h3, h4⟩ := sizeIs_ok h2
  split at h1
  · rename_i d hd; exact ⟨d, i, hd, h1, h3, h4⟩
  · simp at h1
theorem run_mapM {α γ : Type} {f : α → Sem γ} {h : α → γ} : ∀ {l : List α}, (∀ a ∈ l, (f a).run P w = .ok (h a) w) → (l.mapM f).run P w = .ok (l.map h) w
  | [], _ => by simp
  | a :: l, hl => by
    have ih := run_mapM (l := l) (fun x hx => hl x (by simp [hx]))
    simp only [List.mapM_cons, Sem.run_bind, hl a (by simp), Result.andThen_ok, ih, List.map_cons]
    rfl
theorem run_places {fs : Array Field} {pl : List (Nat × Nat)} (h : placesOf P fs.toList = some pl) (w : World) : (fs.mapM fun f => do pure (f.offset, ← Go.sizeOf f.type) : Sem (Array (Nat × Nat))).run P w = .ok pl.toArray w := by
  have key : ∀ (l : List Field) (pl : List (Nat × Nat)), placesOf P l = some pl → pl = l.map (fun f => (f.offset, ((P.info? f.type).map (·.size)).getD 0)) ∧ ∀ f ∈ l, ∃ i, P.info? f.type = some i := by
    intro l
    induction l with
    | nil => intro pl h; simp [placesOf] at h; subst h; simp
    | cons f l ih =>
      intro pl h
      simp only [placesOf, List.mapM_cons, Option.pure_def, Option.bind_eq_bind, Option.bind_eq_some_iff, Option.map_eq_some_iff] at h
      obtain ⟨x, ⟨i, h1, rfl⟩, pl', h2, h3⟩ := h
      obtain rfl := Option.some.inj h3
      obtain ⟨k1, k2⟩ := ih pl' h2
      refine ⟨by simp [h1, k1], fun f' hf => ?_⟩
      rcases List.mem_cons.1 hf with rfl | hf
      · exact ⟨i, h1⟩
      · exact k2 f' hf
  obtain ⟨k1, k2⟩ := key _ _ h
  have := run_mapM (P := P) (w := w) (f := fun f : Field => (do pure (f.offset, ← Go.sizeOf f.type) : Sem (Nat × Nat))) (h := fun f => (f.offset, ((P.info? f.type).map (·.size)).getD 0)) (l := fs.toList) (fun f hf => by
    obtain ⟨i, hi⟩ := k2 f hf
    rw [Sem.run_bind, run_size w hi]
    simp [hi])
  rw [← k1] at this
  have e : fs.mapM (fun f : Field => (do pure (f.offset, ← Go.sizeOf f.type) : Sem (Nat × Nat))) = List.toArray <$> fs.toList.mapM (fun f : Field => (do pure (f.offset, ← Go.sizeOf f.type) : Sem (Nat × Nat))) := by
    conv => lhs; rw [← Array.toArray_toList (xs := fs)]
    rw [List.mapM_toArray]
  rw [e]
  simp only [map_eq_pure_bind, Sem.run_bind, this, Result.andThen_ok]
  rfl
end
end Pv

set_option linter.unusedVariables false
set_option linter.unusedSimpArgs false
namespace Pv
open Go
section
variable {P : Program} {E E2 E3 : Env} {w w2 : World} {β β2 : Nat → Option Nat} {s s2 : St} {tm : Array Value} {g g2 : Nat → List Nat} {cx : Cx} {C : Orc}
theorem quiet_x {o : Oper} {t : T} (h : s2 = s ∧ Does P cx E w β s tm g o t s) : DoesX P cx E w β s tm g o t s2 := by
  obtain ⟨rfl, h⟩ := h; exact .inl h
theorem args1 {α : Type} {a : Array α} {x : α} (h : a.toList = [x]) : a = #[x] := by
  apply Array.ext'; simpa using h
theorem args2 {α : Type} {a : Array α} {x y : α} (h : a.toList = [x, y]) : a = #[x, y] := by
  apply Array.ext'; simpa using h
theorem op_move (hI : Inv E w β s tm g) {o : Oper} {x : Operand} {X : O} {t : T} {M : List (Nat × Nat)} (hop : o.op = .move x) (hx : OpdOk x X) (hev : evIns C cx s .move [X] = some (t, s2, M)) : DoesX P cx E w β s tm g o t s2 := by
  cases X with
  | t i =>
    cases x with
    | tmp i' =>
      obtain ⟨rfl, hi⟩ := hx
      cases hv : s.opv (.t i') with
      | none => simp [evIns, hv] at hev
      | some t' =>
        cases t' with
        | tup ts =>
          simp only [evIns, hv] at hev
          split at hev
          · simp at hev
          rename_i h100
          split at hev
          case h_2 => simp at hev
          rename_i us s' M' htk
          simp only [Option.some.injEq, Prod.mk.injEq] at hev
          obtain ⟨rfl, rfl, rfl⟩ := hev
          exact .inl (a_moveTup hI hop hi hv (by omega) htk)
        | one v =>
          simp only [evIns, hv, Option.some.injEq, Prod.mk.injEq] at hev
          obtain ⟨rfl, rfl, rfl⟩ := hev
          exact .inl (q_move_one hI hop hi hv)
        | agg r =>
          simp only [evIns, hv, Option.some.injEq, Prod.mk.injEq] at hev
          obtain ⟨rfl, rfl, rfl⟩ := hev
          exact .inl (q_move_agg hI hop hi hv)
        | mp => simp [evIns, hv] at hev
        | _ =>
          simp only [evIns, hv, Option.some.injEq, Prod.mk.injEq] at hev
          obtain ⟨rfl, rfl, rfl⟩ := hev
          exact .inl (q_move_free hI (X := .t i') (.inl hop) ⟨rfl, hi⟩ hv (.inl rfl))
    | _ => exact hx.elim
  | c y =>
    have hv : s.opv (.c y) = some y := rfl
    have hnt : ∀ ts, y ≠ .tup ts := by
      rintro ts rfl
      cases x <;> simp [OpdOk, CstOk] at hx
    cases y with
    | tup ts => exact absurd rfl (hnt ts)
    | mp => simp [evIns, hv] at hev
    | _ =>
      simp only [evIns, hv, Option.some.injEq, Prod.mk.injEq] at hev
      obtain ⟨rfl, rfl, rfl⟩ := hev
      exact .inl (q_move_free hI (.inl hop) hx hv (.inr ⟨⟨_, rfl⟩, hnt⟩))
theorem op_ok (hC : SoundC P C) (hI : Inv E w β s tm g) {o : Oper} {k : K} {xs : List O} {t : T} {M : List (Nat × Nat)} (hok : okOp P o k xs = true) (hev : evIns C cx s k xs = some (t, s2, M)) : DoesX P cx E w β s tm g o t s2 := by
  unfold okOp at hok
  split at hok
  · exact op_move hI (by assumption) (okOpd_ok hok) hev
  · exact .inl (a_assign hI (by assumption) (okOpd_ok hok) hev)
  · -- pick
    rename_i c a b C' A B hop
    simp only [Bool.and_eq_true] at hok
    obtain ⟨⟨h1, h2⟩, h3⟩ := hok
    simp only [evIns] at hev
    split at hev
    · rename_i hc
      split at hev
      · rename_i v hv
        simp only [Option.some.injEq, Prod.mk.injEq] at hev
        obtain ⟨rfl, rfl, rfl⟩ := hev
        exact .inl (q_pick hI hop (okOpd_ok h1) (okOpd_ok h2) (okOpd_ok h3) hc (by simpa using hv))
      · simp at hev
    · rename_i hc
      split at hev
      · rename_i v hv
        simp only [Option.some.injEq, Prod.mk.injEq] at hev
        obtain ⟨rfl, rfl, rfl⟩ := hev
        exact .inl (q_pick hI hop (okOpd_ok h1) (okOpd_ok h2) (okOpd_ok h3) hc (by simpa using hv))
      · simp at hev
    · simp at hev
  · -- bin
    rename_i op ty x y ty2 op' X Y hop
    simp only [Bool.and_eq_true, decide_eq_true_eq] at hok
    obtain ⟨⟨rfl, h2⟩, h3⟩ := hok
    simp only [evIns] at hev
    split at hev
    · rename_i a b ha hb
      split at hev
      · rename_i v hv
        simp only [Option.some.injEq, Prod.mk.injEq] at hev
        obtain ⟨rfl, rfl, rfl⟩ := hev
        exact .inl (q_bin hI hop (okOpd_ok h2) (okOpd_ok h3) ha hb hv)
      · simp at hev
    · simp at hev
  · -- binB
    rename_i op ty x y ty2 neg X Y hop
    simp only [Bool.and_eq_true, decide_eq_true_eq] at hok
    obtain ⟨⟨⟨rfl, h1⟩, h2⟩, h3⟩ := hok
    simp only [evIns] at hev
    split at hev
    · rename_i a b ha hb
      simp only [Option.some.injEq, Prod.mk.injEq] at hev
      obtain ⟨rfl, rfl, rfl⟩ := hev
      refine .inl (q_binB hI hop ?_ (okOpd_ok h2) (okOpd_ok h3) ha hb)
      split at h1
      · assumption
      · simp at h1
    · simp at hev
  · -- eq
    rename_i op ty x y ty2 neg ks X Y hop
    simp only [Bool.and_eq_true, decide_eq_true_eq] at hok
    obtain ⟨⟨⟨rfl, h1⟩, h2⟩, h3⟩ := hok
    exact quiet_x (q_eq hI hop h1 (okOpd_ok h2) (okOpd_ok h3) hev)
  · -- un
    rename_i op ty x op' X hop
    simp only [Bool.and_eq_true, decide_eq_true_eq] at hok
    obtain ⟨rfl, h2⟩ := hok
    simp only [evIns] at hev
    split at hev
    · rename_i a ha
      split at hev
      · rename_i v hv
        simp only [Option.some.injEq, Prod.mk.injEq] at hev
        obtain ⟨rfl, rfl, rfl⟩ := hev
        exact .inl (q_un hI hop (okOpd_ok h2) ha hv)
      · simp at hev
    · simp at hev
  · -- conv
    rename_i src dst x k' X hop
    simp only [Bool.and_eq_true] at hok
    obtain ⟨⟨h1, h2⟩, h3⟩ := hok
    obtain ⟨d1, hd1⟩ := Option.isSome_iff_exists.1 h1
    split at h2
    case h_2 => simp at h2
    rename_i k2 hk2
    simp only [decide_eq_true_eq] at h2
    subst h2
    simp only [evIns] at hev
    split at hev
    · rename_i k0 n ha
      simp only [Option.some.injEq, Prod.mk.injEq] at hev
      obtain ⟨rfl, rfl, rfl⟩ := hev
      exact .inl (q_conv hI hop hd1 hk2 (okOpd_ok h3) ha)
    · simp at hev
  · -- alloc
    rename_i e b row hop
    simp only [Bool.and_eq_true] at hok
    obtain ⟨h1, h2⟩ := hok
    obtain ⟨i, z, h3, h4, h5⟩ := okZero_ok h2
    split at h1
    case h_2 => simp at h1
    rename_i d hd
    simp only [Bool.and_eq_true, decide_eq_true_eq] at h1
    obtain ⟨rfl, h1⟩ := h1
    exact .inl (a_alloc hI hop h1 h3 h4 h5 hev)
  · -- box
    rename_i e x b X hop
    simp only [Bool.and_eq_true] at hok
    obtain ⟨h1, h2⟩ := hok
    split at h1
    case h_2 => simp at h1
    rename_i d hd
    simp only [Bool.and_eq_true, decide_eq_true_eq] at h1
    obtain ⟨rfl, h1⟩ := h1
    exact .inl (a_box hI hop h1 (okOpd_ok h2) hev)
  · -- fieldAddr
    rename_i sT x i off X hop
    simp only [Bool.and_eq_true] at hok
    obtain ⟨h1, h2⟩ := hok
    split at h1
    case h_2 => simp at h1
    rename_i fs hfs
    split at h1
    case h_2 => simp at h1
    rename_i f hf
    simp only [Bool.and_eq_true, beq_iff_eq] at h1
    obtain ⟨rfl, h1⟩ := h1
    split at h1
    case h_2 => simp at h1
    rename_i fi hfi
    exact quiet_x (q_fld hI hop hfs hf hfi (by simpa using h1) (okOpd_ok h2) hev)
  · -- ida
    rename_i tT x y sz X Y hop
    simp only [Bool.and_eq_true] at hok
    obtain ⟨⟨h1, h2⟩, h3⟩ := hok
    split at h1
    case h_2 => simp at h1
    rename_i e he
    obtain ⟨ei, h4, rfl⟩ := sizeIs_ok h1
    exact quiet_x (q_ida hI hop he h4 (okOpd_ok h2) (okOpd_ok h3) hev)
  · -- idarr
    rename_i tT x y len sz X Y hop
    simp only [Bool.and_eq_true] at hok
    obtain ⟨⟨h1, h2⟩, h3⟩ := hok
    split at h1
    case h_2 => simp at h1
    rename_i n e he
    simp only [Bool.and_eq_true, beq_iff_eq] at h1
    obtain ⟨rfl, h1⟩ := h1
    obtain ⟨ei, h4, rfl⟩ := sizeIs_ok h1
    exact quiet_x (q_idarr hI hop he h4 (okOpd_ok h2) (okOpd_ok h3) hev)
  · -- load one
    rename_i ty x X hop
    simp only [Bool.and_eq_true] at hok
    obtain ⟨h1, h2⟩ := hok
    obtain ⟨d, h3, h4⟩ := sizeOne_ok h1
    exact quiet_x (q_load1 hI hop h3 h4 (okOpd_ok h2) hev)
  · -- load many
    rename_i ty x n X hop
    simp only [Bool.and_eq_true] at hok
    obtain ⟨h1, h2⟩ := hok
    obtain ⟨d, i, h3, h4, h5, rfl⟩ := aggIs_ok h1
    exact quiet_x (q_loadN hI hop h3 h4 h5 (okOpd_ok h2) hev)
  · -- store
    rename_i ty a x res n A X hop
    simp only [Bool.and_eq_true] at hok
    obtain ⟨⟨h1, h2⟩, h3⟩ := hok
    obtain ⟨i, h4, rfl⟩ := sizeIs_ok h1
    exact .inl (a_store hI hop h4 (okOpd_ok h2) (okOpd_ok h3) hev)
  · -- field one
    rename_i sT x i off X hop
    simp only [Bool.and_eq_true] at hok
    obtain ⟨h1, h2⟩ := hok
    split at h1
    case h_2 => simp at h1
    rename_i fs hfs
    split at h1
    case h_2 => simp at h1
    rename_i f hf
    simp only [Bool.and_eq_true, beq_iff_eq] at h1
    obtain ⟨rfl, h1⟩ := h1
    obtain ⟨d, h3, h4⟩ := sizeOne_ok h1
    exact quiet_x (q_field1 hI hop hfs hf h3 h4 (okOpd_ok h2) hev)
  · -- field many
    rename_i sT x i off n X hop
    simp only [Bool.and_eq_true] at hok
    obtain ⟨h1, h2⟩ := hok
    split at h1
    case h_2 => simp at h1
    rename_i fs hfs
    split at h1
    case h_2 => simp at h1
    rename_i f hf
    simp only [Bool.and_eq_true, beq_iff_eq] at h1
    obtain ⟨rfl, h1⟩ := h1
    obtain ⟨d, fi, h3, h4, h5, rfl⟩ := aggIs_ok h1
    exact quiet_x (q_fieldN hI hop hfs hf h3 h4 h5 (okOpd_ok h2) hev)
  · -- idxV
    rename_i tT x y len sz X Y hop
    simp only [Bool.and_eq_true] at hok
    obtain ⟨⟨h1, h2⟩, h3⟩ := hok
    split at h1
    case h_2 => simp at h1
    rename_i n e he
    simp only [Bool.and_eq_true, beq_iff_eq] at h1
    obtain ⟨⟨rfl, h1⟩, h4⟩ := h1
    obtain ⟨ei, h5, rfl⟩ := sizeIs_ok h1
    obtain ⟨d, h6, h7⟩ := sizeOne_ok h4
    exact quiet_x (q_idxV1 hI hop he h6 h7 h5 (okOpd_ok h2) (okOpd_ok h3) hev)
  · -- idxS
    rename_i tT x y X Y hop
    simp only [Bool.and_eq_true] at hok
    obtain ⟨⟨h1, h2⟩, h3⟩ := hok
    split at h1
    case h_2 => simp at h1
    rename_i he
    exact quiet_x (q_idxS hI hop he (okOpd_ok h2) (okOpd_ok h3) hev)
  · -- build
    rename_i ty parts zero pos Xs hop
    simp only [Bool.and_eq_true] at hok
    obtain ⟨⟨h1, h2⟩, h3⟩ := hok
    obtain ⟨i, z, h4, h5, h6⟩ := okZero_ok h2
    split at h1
    case h_2 => simp at h1
    rename_i fs hfs
    split at h1
    case h_2 => simp at h1
    rename_i places hpl
    simp only [beq_iff_eq] at h1
    exact .inl (a_build (places := places.toArray) hI hop hfs h4 h5 h6 (fun w => run_places hpl w) (by simpa using h1) (okOpds_ok h3) hev)
  · -- bsl
    rename_i ty len parts sz zero len' idx Xs hop
    simp only [Bool.and_eq_true, beq_iff_eq, decide_eq_true_eq] at hok
    obtain ⟨⟨⟨⟨h1, rfl⟩, h2⟩, rfl⟩, h3⟩ := hok
    split at h1
    case h_2 => simp at h1
    rename_i e he
    simp only [Bool.and_eq_true] at h1
    obtain ⟨ei, h4, rfl⟩ := sizeIs_ok h1.1
    obtain ⟨i, z, h5, h6, h7⟩ := okZero_ok h1.2
    rw [h4] at h5
    obtain rfl := Option.some.inj h5
    exact .inl (a_bsl hI hop he h4 h6 h7 h2 (okOpds_ok h3) hev)
  · -- mks
    rename_i ty l c sz zero bytes L L2 hop
    simp only [Bool.and_eq_true] at hok
    obtain ⟨⟨h1, h2⟩, h3⟩ := hok
    split at h1
    case h_2 => simp at h1
    rename_i e he
    simp only [Bool.and_eq_true] at h1
    obtain ⟨⟨h1, h4⟩, h5⟩ := h1
    obtain ⟨ei, h6, rfl⟩ := sizeIs_ok h1
    obtain ⟨i, z, h7, h8, h9⟩ := okZero_ok h4
    rw [h6] at h7
    obtain rfl := Option.some.inj h7
    rw [h6] at h5
    simp only [Bool.and_eq_true, beq_iff_eq, bne_iff_ne, ne_eq] at h5
    obtain ⟨rfl, h5⟩ := h5
    exact .inl (a_mks hI hop he h6 h8 h9 h5 (okOpd_ok h2) (okOpd_ok h3) hev)
  · -- slc
    rename_i tT x lo hi mx sz lo' hi' mx' X Xs hop
    simp only [Bool.and_eq_true, beq_iff_eq] at hok
    obtain ⟨⟨⟨⟨⟨⟨h1, rfl⟩, rfl⟩, rfl⟩, h2⟩, h3⟩, h4⟩ := hok
    split at h1
    case h_2 => simp at h1
    rename_i e he
    obtain ⟨ei, h6, rfl⟩ := sizeIs_ok h1
    exact quiet_x (q_slc hI hop he h6 (fun h => by simpa [h] using h2) (okOpd_ok h3) (okOpds_ok h4) hev)
  · -- ext
    rename_i d i i' d' hop
    simp only [Bool.and_eq_true, beq_iff_eq, decide_eq_true_eq] at hok
    obtain ⟨⟨⟨rfl, rfl⟩, h1⟩, h2⟩ := hok
    exact .inl (a_ext hI hop h1 h2 hev)
  · -- mkf
    rename_i f fs cs f' n Xs hop
    simp only [Bool.and_eq_true, beq_iff_eq] at hok
    obtain ⟨⟨rfl, rfl⟩, h1⟩ := hok
    simp only [evIns] at hev
    split at hev
    case h_2 => simp at hev
    rename_i vs hvs
    simp only [Option.some.injEq, Prod.mk.injEq] at hev
    obtain ⟨rfl, rfl, rfl⟩ := hev
    exact .inl (q_mkf hI hop (okOpds_ok h1) hvs)
  · -- nilchk
    rename_i x X hop
    exact quiet_x (q_nilchk hI hop (okOpd_ok hok) hev)
  · -- append
    rename_i c sz bytes X Y hop
    simp only [Bool.and_eq_true] at hok
    obtain ⟨h1, h2⟩ := hok
    split at h1
    case h_2 => simp at h1
    rename_i hc
    split at h2
    case h_2 => simp at h2
    rename_i x y t1 t2 ha hat
    simp only [Bool.and_eq_true] at h2
    obtain ⟨⟨h3, h4⟩, h5⟩ := h2
    split at h5
    case h_2 => simp at h5
    rename_i e e2 he he2
    split at h5
    case h_2 => simp at h5
    rename_i ei hei
    simp only [Bool.and_eq_true, beq_iff_eq, bne_iff_ne, ne_eq] at h5
    obtain ⟨⟨⟨rfl, rfl⟩, h6⟩, h7⟩ := h5
    split at h7
    case h_2 => simp at h7
    rename_i z hz
    exact .inl (a_app hI hop hc (args2 ha) (args2 hat) he he2 hei hz (by simpa using h7) h6 (okOpd_ok h3) (okOpd_ok h4) hev)
  · -- len
    rename_i c X hop
    simp only [Bool.and_eq_true] at hok
    obtain ⟨h1, h2⟩ := hok
    split at h1
    case h_2 => simp at h1
    rename_i hc
    split at h2
    case h_2 => simp at h2
    rename_i x ty ha hat
    simp only [Bool.and_eq_true] at h2
    obtain ⟨h3, h4⟩ := h2
    split at h4
    case h_2 => simp at h4
    rename_i e he
    simp only [evIns] at hev
    split at hev
    case h_2 => simp at hev
    rename_i v hv
    simp only [Option.some.injEq, Prod.mk.injEq] at hev
    obtain ⟨rfl, rfl, rfl⟩ := hev
    exact .inl (q_len hI hop hc (args1 ha) hat he (okOpd_ok h3) hv)
  · -- lenS
    rename_i c X hop
    simp only [Bool.and_eq_true] at hok
    obtain ⟨h1, h2⟩ := hok
    split at h1
    case h_2 => simp at h1
    rename_i hc
    split at h2
    case h_2 => simp at h2
    rename_i x ty ha hat
    simp only [Bool.and_eq_true] at h2
    obtain ⟨h3, h4⟩ := h2
    split at h4
    case h_2 => simp at h4
    rename_i he
    simp only [evIns] at hev
    split at hev
    case h_2 => simp at hev
    rename_i v hv
    simp only [Option.some.injEq, Prod.mk.injEq] at hev
    obtain ⟨rfl, rfl, rfl⟩ := hev
    exact .inl (q_lenS hI hop hc (args1 ha) hat he (okOpd_ok h3) hv)
  · -- lenC
    rename_i c n X hop
    simp only [Bool.and_eq_true] at hok
    obtain ⟨h1, h2⟩ := hok
    split at h1
    case h_2 => simp at h1
    rename_i hc
    split at h2
    case h_2 => simp at h2
    rename_i x ty ha hat
    split at h2
    case h_2 => simp at h2
    rename_i m e he
    simp only [beq_iff_eq] at h2
    subst h2
    simp only [evIns, Option.some.injEq, Prod.mk.injEq] at hev
    obtain ⟨rfl, rfl, rfl⟩ := hev
    exact .inl (q_lenC hI hop hc (args1 ha) hat he)
  · -- mn
    rename_i c X Y hop
    simp only [Bool.and_eq_true] at hok
    obtain ⟨h1, h2⟩ := hok
    split at h1
    case h_2 => simp at h1
    rename_i hc
    split at h2
    case h_2 => simp at h2
    rename_i x y ha
    simp only [Bool.and_eq_true] at h2
    simp only [evIns] at hev
    split at hev
    case h_2 => simp at hev
    rename_i a b hva hvb
    simp only [Option.some.injEq, Prod.mk.injEq] at hev
    obtain ⟨rfl, rfl, rfl⟩ := hev
    exact .inl (q_mn hI hop hc (args2 ha) (okOpd_ok h2.1) (okOpd_ok h2.2) hva hvb)
  · -- mx
    rename_i c X Y hop
    simp only [Bool.and_eq_true] at hok
    obtain ⟨h1, h2⟩ := hok
    split at h1
    case h_2 => simp at h1
    rename_i hc
    split at h2
    case h_2 => simp at h2
    rename_i x y ha
    simp only [Bool.and_eq_true] at h2
    simp only [evIns] at hev
    split at hev
    case h_2 => simp at hev
    rename_i a b hva hvb
    simp only [Option.some.injEq, Prod.mk.injEq] at hev
    obtain ⟨rfl, rfl, rfl⟩ := hev
    exact .inl (q_mx hI hop hc (args2 ha) (okOpd_ok h2.1) (okOpd_ok h2.2) hva hvb)
  · -- call
    rename_i c io b mv f as hop
    simp only [Bool.and_eq_true] at hok
    obtain ⟨⟨h1, h2⟩, h3⟩ := hok
    split at h1
    case h_2 => simp at h1
    rename_i xf hc
    split at h2
    case h_2 => simp at h2
    rename_i d hd
    simp only [Bool.and_eq_true, decide_eq_true_eq] at h2
    obtain ⟨rfl, h2⟩ := h2
    exact .inr (a_call hC hI hop hc h2 (okOpd_ok h1) (okOpds_ok h3) hev)
  · simp at hok
end
end Pv

set_option linter.unusedVariables false
set_option linter.unusedSimpArgs false
namespace Pv
open Go
def okIns (P : Program) (ops : Array Oper) (n : Nat) (o : Oper) (i : Ins) : Bool :=
  okOp P o i.k i.xs && decide (i.dst = o.dst) && (match o.dst with | some d => decide (d < 5000) && decide (d < n) | none => true) &&
  (match o.guard, i.grd with
    | none, none => true
    | some (j, w), some (t, w') => (match (ops[j]?).bind (·.dst) with | some d => d == t && w == w' && decide (d < 5000) && decide (d < n) | none => false)
    | _, _ => false)
def okReg (P : Program) (ops : Array Oper) (n : Nat) : List Oper → List Ins → Bool
  | [], [] => true
  | o :: os, i :: is => okIns P ops n o i && okReg P ops n os is
  | _, _ => false
structure ASt (cx : Cx) (n : Nat) (E0 : Env) (w0 : World) (β0 : Nat → Option Nat) (g0 : Nat → List Nat) (tm0 : Array Value) (a : Act) (w : World) (s : St) : Prop where
  defers : a.defers = []
  size : a.tmps.size = n
  pins : ∀ p r, (p, r) ∈ cx.pin → cvOf a.tmps p = cvOf tm0 p
  st : ∃ E β g, Inv E w β s a.tmps g ∧ Fr E0 w0 β0 g0 E w β g [] ∧ PinOk cx w β s a.tmps
section
variable {P : Program} {E0 : Env} {w w0 : World} {β0 : Nat → Option Nat} {g0 : Nat → List Nat} {tm0 : Array Value} {s s2 : St} {cx : Cx} {C : Orc} {n : Nat} {a : Act}
theorem Act.put_tmps (a : Act) (dst : Option Tmp) (v : Value) : ((Act.mk a.tmps []).put dst v).tmps = (a.put dst v).tmps := by cases dst <;> rfl
theorem Act.put_defers' (a : Act) (dst : Option Tmp) (v : Value) : (a.put dst v).defers = a.defers := by cases dst <;> rfl
theorem Act.put_size (a : Act) (dst : Option Tmp) (v : Value) : (a.put dst v).tmps.size = a.tmps.size := by cases dst <;> simp [Act.put]
theorem ASt.out (h : ASt cx n E0 w0 β0 g0 tm0 a w s) {E : Env} {β : Nat → Option Nat} {g : Nat → List Nat} (hF : Fr E0 w0 β0 g0 E w β g []) (hp : PinOk cx w β s a.tmps) {t : T} {cv : Value} {w2 : World} (ho : Out cx E w β s a.tmps g t s2 cv w2) {dst : Option Nat}
    (hd : ∀ d, dst = some d → d < 5000 ∧ d < n ∧ cx.pin.any (fun x => x.1 == d || x.2 == d) = false) : ASt cx n E0 w0 β0 g0 tm0 (a.put dst cv) w2 (putDst s2 dst t) := by
  obtain ⟨E2, β2, g2, k1, k2, k3⟩ := ho.put (dst := dst) (fun d hdd => by
    obtain ⟨h1, h2, h3⟩ := hd d hdd
    exact ⟨h1, by rw [h.size]; exact h2, h3⟩)
  rw [Act.put_tmps] at k1 k3
  refine ⟨by rw [Act.put_defers']; exact h.defers, by rw [Act.put_size]; exact h.size, fun p r hpr => ?_, E2, β2, g2, k1, hF.trans k2, k3 hp⟩
  rw [← h.pins p r hpr]
  cases dst with
  | none => rfl
  | some d =>
    obtain ⟨h1, h2, h3⟩ := hd d rfl
    have hnp : p ≠ d := by
      rintro rfl
      simp only [List.any_eq_false, Bool.or_eq_true, beq_iff_eq, not_or, Prod.forall] at h3
      exact (h3 p r hpr).1 rfl
    have hp5 := (hp p r hpr).1
    exact cvOf_set (by omega) hnp
theorem out_skip {E : Env} {β : Nat → Option Nat} {g : Nat → List Nat} {tm : Array Value} (hI : Inv E w β s tm g) : Out cx E w β s tm g (.tup []) s undef w :=
  ⟨E, β, g, [], hI, Fr.refl, ⟨by simp, by simp, by simp, #[], rfl, rfl, rfl, by simp, rfl, by simp⟩, id⟩
theorem sc_bool {E : Env} {β : Nat → Option Nat} {g : Nat → List Nat} {tm : Array Value} (hI : Inv E w β s tm g) {i v : Nat} {t : T} (hi : i < 5000) (h : s.get i = some (t, v)) : (∀ b, t = .one (.sc (.bool b)) → cvOf tm i = .bool b) ∧ (t = .tup [] → cvOf tm i = .tuple #[]) := by
  have := hI.roots i t v h
  simp only [RootOk, isBox_low hi, Bool.false_eq_true, if_false] at this
  constructor
  · rintro b rfl
    simp only [TOk, Rep] at this
    exact this.1
  · rintro rfl
    simp only [TOk] at this
    obtain ⟨_, vs, e, h2⟩ := this
    rw [e]
    congr 1
    exact Array.eq_empty_of_size_eq_zero (by simpa using h2)
theorem evOp_ok (hC : SoundC P C) {ops : Array Oper} {o : Oper} {i : Ins} (h : ASt cx n E0 w0 β0 g0 tm0 a w s) (hok : okIns P ops n o i = true) {f : Fp} (hev : evOp C cx s i = some (s2, f)) {K : Act → World → Prop} {Q : Exit → Act → World → Prop}
    (hK : ∀ a w, ASt cx n E0 w0 β0 g0 tm0 a w s2 → K a w) : if Region.wanted o (yielded ops a.tmps) then o.wp P a w K Q else K (a.put o.dst undef) w := by
  obtain ⟨E, β, g, hI, hF, hp⟩ := h.st
  simp only [okIns, Bool.and_eq_true, decide_eq_true_eq] at hok
  obtain ⟨⟨⟨hop, hdst⟩, hd⟩, hgrd⟩ := hok
  have hdd : ∀ d, o.dst = some d → d < 5000 ∧ d < n := by
    intro d e
    rw [e] at hd
    simpa using hd
  simp only [evOp] at hev
  split at hev
  · simp at hev
  rename_i hpin
  have hdp : ∀ d, o.dst = some d → d < 5000 ∧ d < n ∧ cx.pin.any (fun x => x.1 == d || x.2 == d) = false := by
    intro d e
    obtain ⟨h1, h2⟩ := hdd d e
    refine ⟨h1, h2, ?_⟩
    rw [hdst, e] at hpin
    simpa only [Cx.pinned, Bool.not_eq_true] using hpin
  have run : ∀ (gs : List (Nat × Option Nat)), evDo C cx s i gs = some (s2, f) → o.wp P a w K Q := by
    intro gs he
    simp only [evDo] at he
    split at he
    case h_2 => simp at he
    rename_i t s' M hins
    simp only [Option.some.injEq, Prod.mk.injEq] at he
    obtain ⟨rfl, _⟩ := he
    unfold Oper.wp
    rw [eval_ev]
    rcases op_ok hC hI hop hins with ⟨nx, cv, w2, h1, h2, h3⟩ | ⟨fid, args, h1, h2⟩
    · rw [h1]
      have := h.out hF hp h3 hdp
      rw [hdst] at hK
      rcases h2 with rfl | ⟨rfl, rfl⟩
      · simp only [Oper.upon]; exact hK _ _ this
      · simp only [Oper.upon]; exact hK _ _ this
    · rw [h1]
      simp only [Oper.upon]
      refine h2.mono ?_
      rintro e w2 ⟨cv, rfl, h3⟩
      have := h.out hF hp h3 hdp
      rw [hdst] at hK
      exact hK _ _ this
  have skip : putDst s i.dst (.tup []) = s2 → K (a.put o.dst undef) w := by
    rintro rfl
    have := h.out hF hp (out_skip hI) hdp
    rw [hdst] at hK
    exact hK _ _ this
  split at hev
  · rename_i hg
    have hog : o.guard = none := by
      rw [hg] at hgrd
      cases hh : o.guard with
      | none => rfl
      | some x => rw [hh] at hgrd; simp at hgrd
    have hw : Region.wanted o (yielded ops a.tmps) = true := by simp [Region.wanted, hog]
    rw [if_pos hw]
    exact run _ hev
  · rename_i gt gw hg
    rw [hg] at hgrd
    cases hog : o.guard with
    | none => rw [hog] at hgrd; simp at hgrd
    | some x =>
      obtain ⟨j, jw⟩ := x
      rw [hog] at hgrd
      simp only [] at hgrd
      split at hgrd
      case h_2 => simp at hgrd
      rename_i d hd2
      simp only [Bool.and_eq_true, beq_iff_eq, decide_eq_true_eq] at hgrd
      obtain ⟨⟨⟨rfl, rfl⟩, hd3⟩, hd4⟩ := hgrd
      have hy : yielded ops a.tmps j = (match a.tmps[d]? with | some (.bool b) => some b | _ => none) := by
        unfold yielded
        rw [hd2]; rfl
      have hat : a.tmps[d]? = some (cvOf a.tmps d) := by
        rw [cvOf_low hd3]
        have : d < a.tmps.size := by rw [h.size]; exact hd4
        simp [this]
      split at hev
      · rename_i b v hget
        have hb := (sc_bool hI hd3 hget).1 b rfl
        have hyb : yielded ops a.tmps j = some b := by rw [hy, hat, hb]
        split at hev
        · rename_i hbw
          have hw : Region.wanted o (yielded ops a.tmps) = true := by simp [Region.wanted, hog, hyb, hbw]
          rw [if_pos hw]
          exact run _ hev
        · rename_i hbw
          have hw : ¬ Region.wanted o (yielded ops a.tmps) = true := by simp [Region.wanted, hog, hyb, hbw]
          rw [if_neg hw]
          simp only [Option.some.injEq, Prod.mk.injEq] at hev
          exact skip hev.1
      · rename_i v hget
        have hb := (sc_bool hI hd3 hget).2 rfl
        have hyb : yielded ops a.tmps j = none := by rw [hy, hat, hb]
        have hw : ¬ Region.wanted o (yielded ops a.tmps) = true := by simp [Region.wanted, hog, hyb]
        rw [if_neg hw]
        simp only [Option.some.injEq, Prod.mk.injEq] at hev
        exact skip hev.1
      · simp at hev
theorem reg_ok (hC : SoundC P C) {ops : Array Oper} {Q : Exit → Act → World → Prop} : ∀ (os : List Oper) (is : List Ins) (fs : List Fp) (s s2 : St) (a : Act) (w : World), ASt cx n E0 w0 β0 g0 tm0 a w s → okReg P ops n os is = true → evOps C cx is s = some (s2, fs) →
    (∀ a w, ASt cx n E0 w0 β0 g0 tm0 a w s2 → Q .normal a w) → wpList P ops Q os a w
  | [], [], fs, s, s2, a, w, h, _, hev, hQ => by
    simp only [evOps, Option.some.injEq, Prod.mk.injEq] at hev
    obtain ⟨rfl, _⟩ := hev
    exact wpList_nil (hQ a w h)
  | o :: os, i :: is, fs, s, s2, a, w, h, hok, hev, hQ => by
    simp only [okReg, Bool.and_eq_true] at hok
    simp only [evOps] at hev
    split at hev
    case h_2 => simp at hev
    rename_i s' f hop
    split at hev
    case h_2 => simp at hev
    rename_i s'' fs' hrest
    simp only [Option.some.injEq, Prod.mk.injEq] at hev
    obtain ⟨rfl, _⟩ := hev
    refine wpList_step (fun K hK => evOp_ok hC h hok.1 hop (fun a w h' => hK a w (reg_ok hC os is fs' s' _ a w h' hok.2 hrest hQ)))
  | [], _ :: _, _, _, _, _, _, _, hok, _, _ => by simp [okReg] at hok
  | _ :: _, [], _, _, _, _, _, _, hok, _, _ => by simp [okReg] at hok
theorem ASt.keep (h : ASt cx n E0 w0 β0 g0 tm0 a w s) (l : List Nat) : ASt cx n E0 w0 β0 g0 tm0 a w (s.keep l) := by
  obtain ⟨E, β, g, hI, hF, hp⟩ := h.st
  obtain ⟨β2, g2, k1, k2, k3, k4⟩ := hI.keep l
  refine ⟨h.defers, h.size, h.pins, E, β2, g2, k1, { hF with sub := fun i b hb => hF.sub i b (k2 i b hb), ext := fun r hr => by rw [k3 r hr]; exact hF.ext r hr }, ?_⟩
  intro p r hpr
  obtain ⟨h1, h2⟩ := hp p r hpr
  refine ⟨h1, fun hne => ?_⟩
  obtain ⟨h3, h4⟩ := h2 hne
  refine ⟨h3, fun x hx j c hc => ?_⟩
  have hroot := k1.roots r x.1 x.2 hx
  simp only [RootOk, h3, if_true] at hroot
  obtain ⟨b, _, _, _, hβ, _⟩ := hroot
  have hβ1 := k4 r b hβ
  have hs := (hI.box r b hβ1).2
  obtain ⟨y, hy⟩ := Option.isSome_iff_exists.1 hs
  have := h4 y hy j c hc
  simp only [topVal, h3, if_true, hβ] at this ⊢
  rw [hβ1] at this; exact this
theorem ASt.norm (h : ASt cx n E0 w0 β0 g0 tm0 a w s) : ASt cx n E0 w0 β0 g0 tm0 a w (norm s) := by
  obtain ⟨E, β, g, hI, hF, hp⟩ := h.st
  refine ⟨h.defers, h.size, h.pins, E, β, g, hI.norm, hF, ?_⟩
  intro p r hpr
  obtain ⟨h1, h2⟩ := hp p r hpr
  refine ⟨h1, fun hne => ?_⟩
  obtain ⟨h3, h4⟩ := h2 hne
  refine ⟨h3, fun x hx j c hc => ?_⟩
  rw [get_norm, Option.map_eq_some_iff] at hx
  obtain ⟨y, hy, _⟩ := hx
  exact h4 y hy j c hc
def LoopR (P : Program) (c : Code) (Q : Exit → Act → World → Prop) (a : Act) (w : World) : Prop :=
  ∀ (b : Frame) (k : List Item) (cs : List Frame), ∃ e a' w', Q e a' w' ∧ Arrives P (lone (b.at a (.code c :: .inLoop c :: k)) cs w) b k cs e a' w'
theorem loopR_step {c : Code} {Q : Exit → Act → World → Prop} (h : c.wp P (Exit.then (LoopR P c Q) Q) a w) : LoopR P c Q a w := by
  intro b k cs
  obtain ⟨e, a₁, w₁, hq, harr⟩ := h b (.inLoop c :: k) cs
  cases e with
  | normal =>
    obtain ⟨e₂, a₂, w₂, hq₂, harr₂⟩ := hq b k cs
    exact ⟨e₂, a₂, w₂, hq₂, .of_steps (Steps.trans harr (.one step_inLoop)) harr₂⟩
  | exit id => exact ⟨_, a₁, w₁, hq, .pass (x := .inLoop c) rfl (fun _ _ => .inl (by simp)) harr⟩
  | goto l => exact ⟨_, a₁, w₁, hq, .pass (x := .inLoop c) rfl (fun _ _ => .inl (by simp)) harr⟩
  | ret => exact ⟨_, a₁, w₁, hq, .pass (x := .inLoop c) rfl (fun _ _ => .inl (by simp)) harr⟩
  | panic ch => exact ⟨_, a₁, w₁, hq, .pass (x := .inLoop c) rfl (fun _ _ => .inl (by simp)) harr⟩
  | outgrown => exact ⟨_, a₁, w₁, hq, .pass (x := .inLoop c) rfl (fun _ _ => .inl (by simp)) harr⟩
theorem wp_of_loopR {c : Code} {Q : Exit → Act → World → Prop} (h : LoopR P c Q a w) : (Code.loop c).wp P Q a w := by
  intro b k cs
  obtain ⟨e, a', w', hq, harr⟩ := h b k cs
  exact ⟨e, a', w', hq, .of_steps (.one step_loop) harr⟩
end
end Pv

set_option linter.unusedVariables false
set_option linter.unusedSimpArgs false
namespace Pv
open Go
def Sub (s s' : St) : Prop := ∀ k x, s.get k = some x → s'.get k = some x
section
variable {s s' : St} {cx : Cx} {C : Orc}
theorem Sub.set (S : Sub s s') (i : Nat) (x : Slot) : Sub (s.set i x) (s'.set i x) := by
  intro k y h
  rw [get_set] at h ⊢
  split
  · rename_i e; rw [if_pos e] at h; exact h
  · rename_i e; rw [if_neg e] at h; exact S _ _ h
theorem Sub.upd : ∀ (U : Upd) {s s' : St}, Sub s s' → Sub (s.upd U) (s'.upd U)
  | [], _, _, S => S
  | (i, x) :: U, _, _, S => Sub.upd U (S.set i x)
theorem upd_append (s : St) : ∀ (U V : Upd), s.upd (U ++ V) = (s.upd U).upd V
  | [], V => rfl
  | (i, x) :: U, V => upd_append (s.set i x) U V
theorem upd_one (s : St) (i : Nat) (x : Slot) : s.upd [(i, x)] = s.set i x := rfl
theorem get_upd_ne : ∀ (U : Upd) (s : St) (k : Nat), (∀ x ∈ U, x.1 ≠ k) → (s.upd U).get k = s.get k
  | [], _, _, _ => rfl
  | (i, x) :: U, s, k, h => by
    show ((s.set i x).upd U).get k = _
    rw [get_upd_ne U _ k (fun y hy => h y (List.mem_cons_of_mem _ hy)), get_set_ne _ _ (h (i, x) (by simp))]
theorem get_upd_eq : ∀ (U : Upd) (s s' : St) (k : Nat), (∃ x ∈ U, x.1 = k) → (s.upd U).get k = (s'.upd U).get k
  | [], _, _, _, h => by simp at h
  | (i, x) :: U, s, s', k, h => by
    show ((s.set i x).upd U).get k = ((s'.set i x).upd U).get k
    by_cases hU : ∃ x ∈ U, x.1 = k
    · exact get_upd_eq U _ _ k hU
    · have hU' : ∀ x ∈ U, x.1 ≠ k := fun x hx e => hU ⟨x, hx, e⟩
      obtain ⟨y, hy, e⟩ := h
      rcases List.mem_cons.1 hy with rfl | hy
      · rw [get_upd_ne U _ k hU', get_upd_ne U _ k hU']
        subst e
        rw [get_set_same, get_set_same]
      · exact absurd e (hU' y hy)
theorem get_upd_none : ∀ (U : Upd) (s : St) (k : Nat), (s.upd U).get k = none → s.get k = none ∧ ∀ x ∈ U, x.1 ≠ k
  | [], s, k, h => ⟨h, by simp⟩
  | (i, x) :: U, s, k, h => by
    obtain ⟨h1, h2⟩ := get_upd_none U (s.set i x) k h
    rw [get_set] at h1
    split at h1
    · simp at h1
    · rename_i hne
      exact ⟨h1, fun y hy => by rcases List.mem_cons.1 hy with rfl | hy; exact hne; exact h2 y hy⟩
theorem Sub.opv (S : Sub s s') {o : O} {t : T} (h : s.opv o = some t) : s'.opv o = some t := by
  cases o with
  | c x => exact h
  | t i =>
    cases hg : s.get i with
    | none => simp [St.opv, hg] at h
    | some x => simp only [St.opv, hg, S _ _ hg] at h ⊢; exact h
theorem Sub.ver (S : Sub s s') {i : Nat} {x : Slot} (h : s.get i = some x) : s'.ver i = s.ver i := by simp [St.ver, h, S _ _ h]
theorem Sub.tmp (S : Sub s s') {i : Nat} {x : Slot} (h : s.get i = some x) : Pl.ofTmp s' i = Pl.ofTmp s i := by simp [Pl.ofTmp, S.ver h]
theorem opv_get {i : Nat} {t : T} (h : s.opv (.t i) = some t) : ∃ v, s.get i = some (t, v) := by
  cases hg : s.get i with
  | none => simp [St.opv, hg] at h
  | some x => simp only [St.opv, hg, Option.some.injEq] at h; exact ⟨x.2, by rw [← h]⟩
theorem Sub.tmpo (S : Sub s s') {i : Nat} {t : T} (h : s.opv (.t i) = some t) : Pl.ofTmp s' i = Pl.ofTmp s i := by
  obtain ⟨v, hg⟩ := opv_get h
  exact S.tmp hg
theorem Sub.place (S : Sub s s') {p : Pl} {x : List V × Nat} (h : s.place p = some x) : s'.place p = some x := by
  cases hg : s.get p.r with
  | none => simp [St.place, hg] at h
  | some y => simp only [St.place, hg, S _ _ hg] at h ⊢; exact h
theorem place_get {p : Pl} {x : List V × Nat} (h : s.place p = some x) : ∃ y, s.get p.r = some y := by
  cases hg : s.get p.r with
  | none => simp [St.place, hg] at h
  | some y => exact ⟨y, rfl⟩
theorem Sub.cell (S : Sub s s') {p : Pl} {v : V} (h : s.cell p = some v) : s'.cell p = some v := by
  cases hg : s.place p with
  | none => simp [St.cell, hg] at h
  | some y => simp only [St.cell, hg, S.place hg] at h ⊢; exact h
theorem Sub.cells (S : Sub s s') {p : Pl} {n : Nat} {v : List V} (h : s.cells p n = some v) : s'.cells p n = some v := by
  cases hg : s.place p with
  | none => simp [St.cells, hg] at h
  | some y => simp only [St.cells, hg, S.place hg] at h ⊢; exact h
theorem cell_get {p : Pl} {v : V} (h : s.cell p = some v) : ∃ y, s.get p.r = some y := by
  cases hg : s.place p with
  | none => simp [St.cell, hg] at h
  | some y => exact place_get hg
theorem cells_get {p : Pl} {n : Nat} {v : List V} (h : s.cells p n = some v) : ∃ y, s.get p.r = some y := by
  cases hg : s.place p with
  | none => simp [St.cells, hg] at h
  | some y => exact place_get hg
theorem Sub.merge (S : Sub s s') {p : Pl} {n v : List V} (h : s.merge p n = some v) : s'.merge p n = some v := by
  cases hg : s.cells p n.length with
  | none => simp [St.merge, hg] at h
  | some y => simp only [St.merge, hg, S.cells hg] at h ⊢; exact h
theorem Sub.put (S : Sub s s') {p : Pl} {xs : List V} {b : Bool} {u : Upd} (h : s.put p xs b = some u) : s'.put p xs b = some u := by
  cases hg : s.get p.r with
  | none => simp [St.put, hg] at h
  | some y => simp only [St.put, hg, S _ _ hg] at h ⊢; exact h
theorem put_keys {p : Pl} {xs : List V} {b : Bool} {u : Upd} (h : s.put p xs b = some u) : (∀ x ∈ u, x.1 = p.r) ∧ ∃ y, s.get p.r = some y := by
  cases hg : s.get p.r with
  | none => simp [St.put, hg] at h
  | some y =>
    simp only [St.put, hg] at h
    split at h
    case isFalse => simp at h
    split at h
    case h_2 => simp at h
    split at h
    case h_2 => simp at h
    obtain rfl := Option.some.inj h
    simp
theorem Sub.slice (S : Sub s s') {o : O} {v : Sv} (h : s.slice o = some v) : s'.slice o = some v := by
  cases ho : s.opv o with
  | none => simp [St.slice, ho] at h
  | some t =>
    have ho' := S.opv ho
    cases t with
    | one x =>
      cases x with
      | sl l sz rows =>
        cases o with
        | t i =>
          have := S.tmpo ho
          cases l <;> simp only [St.slice, ho, ho', this] at h ⊢ <;> exact h
        | c y => cases l <;> simp only [St.slice, ho, ho'] at h ⊢ <;> exact h
      | _ => simp [St.slice, ho] at h
    | al p =>
      cases hc : s.cell p with
      | none => simp [St.slice, ho, hc] at h
      | some x => simp only [St.slice, ho, ho', hc, S.cell hc] at h ⊢; exact h
    | slb p lo hi c =>
      cases hc : s.cell p with
      | none => simp [St.slice, ho, hc] at h
      | some x => simp only [St.slice, ho, ho', hc, S.cell hc] at h ⊢; exact h
    | _ => simp [St.slice, ho] at h
theorem Sub.sc (S : Sub s s') {o : O} {v : Value} (h : s.sc o = some v) : s'.sc o = some v := by
  cases ho : s.opv o with
  | none => simp [St.sc, ho] at h
  | some t => simp only [St.sc, ho, S.opv ho] at h ⊢; exact h
theorem Sub.int (S : Sub s s') {o : O} {v : Int} (h : s.int o = some v) : s'.int o = some v := by
  cases ho : s.opv o with
  | none => simp [St.int, ho] at h
  | some t => simp only [St.int, ho, S.opv ho] at h ⊢; exact h
theorem Sub.look (S : Sub s s') {o : O} {v : List V} (h : s.lookA o = some v) : s'.lookA o = some v := by
  cases ho : s.opv o with
  | none => simp [St.lookA, ho] at h
  | some t =>
    cases t with
    | ala p n => simp only [St.lookA, ho, S.opv ho] at h ⊢; exact S.merge h
    | _ => simp only [St.lookA, ho, S.opv ho] at h ⊢; first | exact h | simp at h
theorem Sub.box (S : Sub s s') {r : Nat} {v : List V} (h : s.boxRow r = some v) : s'.boxRow r = some v := by
  cases hg : s.get r with
  | none => simp [St.boxRow, hg] at h
  | some x => simp only [St.boxRow, hg, S _ _ hg] at h ⊢; exact h
theorem Sub.mapOf (S : Sub s s') {o : O} {v : Nat × Bool × Bool × List (List V) × List (List V) × Nat} (h : s.mapOf o = some v) : s'.mapOf o = some v := by
  cases ho : s.opv o with
  | none => simp [St.mapOf, ho] at h
  | some t =>
    cases t with
    | one x =>
      cases x with
      | mref r =>
        cases hg : s.get r with
        | none => simp [St.mapOf, ho, hg] at h
        | some x => simp only [St.mapOf, ho, S.opv ho, hg, S _ _ hg] at h ⊢; exact h
      | _ => simp [St.mapOf, ho] at h
    | _ => simp [St.mapOf, ho] at h
theorem Sub.flat (S : Sub s s') {ag : Bool} {o : O} {v : List V} (h : s.flat ag o = some v) : s'.flat ag o = some v := by
  cases ag with
  | true =>
    cases hl : s.lookA o with
    | none => simp [St.flat, hl] at h
    | some r => simp only [St.flat, hl, S.look hl] at h ⊢; exact h
  | false =>
    cases hl : s.sc o with
    | none => simp [St.flat, hl] at h
    | some r => simp only [St.flat, hl, S.sc hl] at h ⊢; exact h
theorem Sub.addr (S : Sub s s') {o : O} {p : Pl} (h : addrPl s o = some p) (hg : ∃ y, s.get p.r = some y) : addrPl s' o = some p := by
  cases ho : s.opv o with
  | none => simp [addrPl, ho] at h
  | some t =>
    cases t with
    | one x =>
      cases x with
      | ptr r k =>
        simp only [addrPl, ho, S.opv ho, Option.some.injEq] at h ⊢
        obtain ⟨y, hg⟩ := hg
        rw [← h] at hg ⊢
        rw [S.ver hg]
      | _ => simp [addrPl, ho] at h
    | ad q => simp only [addrPl, ho, S.opv ho] at h ⊢; exact h
    | _ => simp [addrPl, ho] at h
theorem Sub.takeAt (S : Sub s s') {res ag : Bool} {p : Pl} {r q : List V} {x : List V × Bool × Upd × List (Nat × Nat)} (h : s.takeAt cx res p r q ag = some x) : s'.takeAt cx res p r q ag = some x := by
  unfold St.takeAt at h ⊢
  split at h
  · simp at h
  rename_i h1
  rw [if_neg h1]
  split at h
  · rename_i h2; rw [if_pos h2]; exact h
  rename_i h2
  rw [if_neg h2]
  split at h
  · rename_i h3
    rw [if_pos h3]
    cases hp : s.put p (lowWith r (deads r) q) false with
    | none => simp [hp] at h
    | some u => simp only [hp, S.put hp] at h ⊢; exact h
  · rename_i h3
    rw [if_neg h3]
    cases hp : s.put p (lowWith r (roRow r) q) false with
    | none => simp [hp] at h
    | some u => simp only [hp, S.put hp] at h ⊢; exact h
def KeyIn (U : Upd) (M : List (Nat × Nat)) : Prop := ∀ x ∈ U, (∃ y ∈ M, y.1 = x.1)
def Has (s : St) (U : Upd) : Prop := ∀ x ∈ U, s.get x.1 ≠ none
theorem takeAt_keys {res ag : Bool} {p : Pl} {r q r' : List V} {ag' : Bool} {u : Upd} {m : List (Nat × Nat)} (h : s.takeAt cx res p r q ag = some (r', ag', u, m)) : KeyIn u m ∧ Has s u := by
  unfold St.takeAt at h
  split at h
  · simp at h
  split at h
  · simp only [Option.some.injEq, Prod.mk.injEq] at h
    obtain ⟨_, _, rfl, rfl⟩ := h
    exact ⟨by simp [KeyIn], by simp [Has]⟩
  split at h
  all_goals
    split at h
    case h_2 => simp at h
    rename_i u' hp
    simp only [Option.some.injEq, Prod.mk.injEq] at h
    obtain ⟨_, _, rfl, rfl⟩ := h
    obtain ⟨k1, y, k2⟩ := put_keys hp
    exact ⟨fun x hx => ⟨_, List.mem_singleton_self _, (k1 x hx).symm⟩, fun x hx => by rw [k1 x hx, k2]; simp⟩
theorem Sub.take (S : Sub s s') {res : Bool} {o : O} {x : List V × Bool × Upd × List (Nat × Nat)} (h : s.take cx res o = some x) : s'.take cx res o = some x := by
  cases ho : s.opv o with
  | none => simp [St.take, ho] at h
  | some t =>
    have ho' := S.opv ho
    cases t with
    | one v =>
      cases o with
      | t i => simp only [St.take, ho, ho', S.tmpo ho] at h ⊢; exact S.takeAt h
      | c y => simp only [St.take, ho, ho'] at h ⊢; exact h
    | agg v =>
      cases o with
      | t i => simp only [St.take, ho, ho', S.tmpo ho] at h ⊢; exact S.takeAt h
      | c y => simp only [St.take, ho, ho'] at h ⊢; exact h
    | al p =>
      cases hc : s.cell p with
      | none => simp [St.take, ho, hc] at h
      | some v => simp only [St.take, ho, ho', hc, S.cell hc] at h ⊢; exact S.takeAt h
    | ala p n =>
      cases hc : s.cells p n.length with
      | none => simp [St.take, ho, hc] at h
      | some v => simp only [St.take, ho, ho', hc, S.cells hc] at h ⊢; exact S.takeAt h
    | slb p lo hi c =>
      cases c with
      | true => simp [St.take, ho] at h
      | false =>
        cases hc : s.cell p with
        | none => simp [St.take, ho, hc] at h
        | some v =>
          simp only [St.take, ho, ho', hc, S.cell hc] at h ⊢
          split at h
          · cases hp : s.put p [.dead] false with
            | none => simp [hp] at h
            | some u => simp only [hp, S.put hp] at h ⊢; exact h
          · simp at h
    | _ => simp [St.take, ho] at h
theorem take_keys {res : Bool} {o : O} {r' : List V} {ag' : Bool} {u : Upd} {m : List (Nat × Nat)} (h : s.take cx res o = some (r', ag', u, m)) : KeyIn u m ∧ Has s u := by
  unfold St.take at h
  split at h
  · exact takeAt_keys h
  · exact takeAt_keys h
  · split at h
    · simp at h
    · simp only [Option.some.injEq, Prod.mk.injEq] at h
      obtain ⟨_, _, rfl, rfl⟩ := h
      exact ⟨by simp [KeyIn], by simp [Has]⟩
  · split at h
    · simp at h
    · simp only [Option.some.injEq, Prod.mk.injEq] at h
      obtain ⟨_, _, rfl, rfl⟩ := h
      exact ⟨by simp [KeyIn], by simp [Has]⟩
  · split at h
    · exact takeAt_keys h
    · simp at h
  · split at h
    · exact takeAt_keys h
    · simp at h
  · split at h
    case h_2 => simp at h
    split at h
    case h_2 => simp at h
    rename_i u' hp
    simp only [Option.some.injEq, Prod.mk.injEq] at h
    obtain ⟨_, _, rfl, rfl⟩ := h
    obtain ⟨k1, y, k2⟩ := put_keys hp
    exact ⟨fun x hx => ⟨_, List.mem_singleton_self _, (k1 x hx).symm⟩, fun x hx => by rw [k1 x hx, k2]; simp⟩
  · simp at h
end
end Pv

set_option linter.unusedVariables false
set_option linter.unusedSimpArgs false
namespace Pv
open Go
def LocAt (F : St → Option (T × St × List (Nat × Nat))) (s : St) (t : T) (s2 : St) (M : List (Nat × Nat)) : Prop :=
  ∃ U : Upd, s2 = s.upd U ∧ KeyIn U M ∧ ∀ s', Sub s s' → (∀ x ∈ U, s.get x.1 = none → s'.get x.1 = none) → F s' = some (t, s'.upd U, M)
section
variable {s s' s2 : St} {cx : Cx} {C : Orc} {t : T} {M : List (Nat × Nat)}
theorem LocAt.quiet {F : St → Option (T × St × List (Nat × Nat))} (h2 : s2 = s) (hM : M = []) (h : ∀ s', Sub s s' → F s' = some (t, s', M)) : LocAt F s t s2 M :=
  ⟨[], h2, by simp [KeyIn], fun s' S _ => h s' S⟩
theorem loc_pick {xs : List O} (h : evIns C cx s .pick xs = some (t, s2, M)) : LocAt (fun s => evIns C cx s .pick xs) s t s2 M := by
  rcases xs with _ | ⟨c, _ | ⟨a, _ | ⟨b, _ | _⟩⟩⟩ <;> simp only [evIns] at h <;> try (simp at h; done)
  split at h
  · rename_i hc
    cases ha : s.sc a with
    | none => simp [ha] at h
    | some v =>
      simp only [ha, Option.some.injEq, Prod.mk.injEq] at h
      obtain ⟨rfl, rfl, rfl⟩ := h
      exact .quiet rfl rfl (fun s' S => by simp only [evIns, S.sc hc, S.sc ha])
  · rename_i hc
    cases ha : s.sc b with
    | none => simp [ha] at h
    | some v =>
      simp only [ha, Option.some.injEq, Prod.mk.injEq] at h
      obtain ⟨rfl, rfl, rfl⟩ := h
      exact .quiet rfl rfl (fun s' S => by simp only [evIns, S.sc hc, S.sc ha])
  · simp at h
theorem loc_bin {op : BinOp} {xs : List O} (h : evIns C cx s (.bin op) xs = some (t, s2, M)) : LocAt (fun s => evIns C cx s (.bin op) xs) s t s2 M := by
  rcases xs with _ | ⟨a, _ | ⟨b, _ | _⟩⟩ <;> simp only [evIns] at h <;> try (simp at h; done)
  split at h
  case h_2 => simp at h
  rename_i x y hx hy
  split at h
  case h_2 => simp at h
  rename_i v hv
  simp only [Option.some.injEq, Prod.mk.injEq] at h
  obtain ⟨rfl, rfl, rfl⟩ := h
  exact .quiet rfl rfl (fun s' S => by simp only [evIns, S.sc hx, S.sc hy, hv])
theorem loc_binB {op : Bool} {xs : List O} (h : evIns C cx s (.binB op) xs = some (t, s2, M)) : LocAt (fun s => evIns C cx s (.binB op) xs) s t s2 M := by
  rcases xs with _ | ⟨a, _ | ⟨b, _ | _⟩⟩ <;> simp only [evIns] at h <;> try (simp at h; done)
  split at h
  case h_2 => simp at h
  rename_i x y hx hy
  simp only [Option.some.injEq, Prod.mk.injEq] at h
  obtain ⟨rfl, rfl, rfl⟩ := h
  exact .quiet rfl rfl (fun s' S => by simp only [evIns, S.sc hx, S.sc hy])
theorem loc_eq {op : Bool} {ks : List Bool} {xs : List O} (h : evIns C cx s (.eq op ks) xs = some (t, s2, M)) : LocAt (fun s => evIns C cx s (.eq op ks) xs) s t s2 M := by
  rcases xs with _ | ⟨a, _ | ⟨b, _ | _⟩⟩ <;> simp only [evIns] at h <;> try (simp at h; done)
  split at h
  case h_2 => simp at h
  rename_i x y hx hy
  split at h
  case h_2 => simp at h
  rename_i v hv
  simp only [Option.some.injEq, Prod.mk.injEq] at h
  obtain ⟨rfl, rfl, rfl⟩ := h
  exact .quiet rfl rfl (fun s' S => by simp only [evIns, S.look hx, S.look hy, hv])
theorem loc_un {op : UnOp} {xs : List O} (h : evIns C cx s (.un op) xs = some (t, s2, M)) : LocAt (fun s => evIns C cx s (.un op) xs) s t s2 M := by
  rcases xs with _ | ⟨a, _ | _⟩ <;> simp only [evIns] at h <;> try (simp at h; done)
  split at h
  case h_2 => simp at h
  rename_i x hx
  split at h
  case h_2 => simp at h
  rename_i v hv
  simp only [Option.some.injEq, Prod.mk.injEq] at h
  obtain ⟨rfl, rfl, rfl⟩ := h
  exact .quiet rfl rfl (fun s' S => by simp only [evIns, S.sc hx, hv])
theorem loc_conv {k : IntKind} {xs : List O} (h : evIns C cx s (.conv k) xs = some (t, s2, M)) : LocAt (fun s => evIns C cx s (.conv k) xs) s t s2 M := by
  rcases xs with _ | ⟨a, _ | _⟩ <;> simp only [evIns] at h <;> try (simp at h; done)
  split at h
  case h_2 => simp at h
  rename_i x hx
  simp only [Option.some.injEq, Prod.mk.injEq] at h
  obtain ⟨rfl, rfl, rfl⟩ := h
  exact .quiet rfl rfl (fun s' S => by simp only [evIns, S.sc hx])
theorem loc_alloc {b : Nat} {z : List V} {xs : List O} (h : evIns C cx s (.alloc b z) xs = some (t, s2, M)) : LocAt (fun s => evIns C cx s (.alloc b z) xs) s t s2 M := by
  rcases xs with _ | ⟨a, _⟩ <;> simp only [evIns] at h <;> try (simp at h; done)
  split at h
  · simp at h
  rename_i hh
  split at h
  case h_2 => simp at h
  rename_i hb
  simp only [Option.some.injEq, Prod.mk.injEq] at h
  obtain ⟨rfl, rfl, rfl⟩ := h
  refine ⟨[(b, (.agg z, 0))], rfl, ?_, fun s' S hn => ?_⟩
  · intro x hx
    rw [List.mem_singleton.1 hx]
    exact ⟨_, List.mem_singleton_self _, rfl⟩
  · have := hn _ (List.mem_singleton_self _) hb
    simp only [evIns, if_neg hh, this, upd_one]
theorem loc_mkm {b : Nat} {ka va : Bool} {xs : List O} (h : evIns C cx s (.mkm b ka va) xs = some (t, s2, M)) : LocAt (fun s => evIns C cx s (.mkm b ka va) xs) s t s2 M := by
  rcases xs with _ | ⟨a, _⟩ <;> simp only [evIns] at h <;> try (simp at h; done)
  split at h
  case h_2 => simp at h
  rename_i hb
  simp only [Option.some.injEq, Prod.mk.injEq] at h
  obtain ⟨rfl, rfl, rfl⟩ := h
  refine ⟨[(b, (.mp b ka va [] [], 0))], rfl, ?_, fun s' S hn => ?_⟩
  · intro x hx
    rw [List.mem_singleton.1 hx]
    exact ⟨_, List.mem_singleton_self _, rfl⟩
  · have := hn _ (List.mem_singleton_self _) hb
    simp only [evIns, this, upd_one]
theorem KeyIn.append {U V : Upd} {m n : List (Nat × Nat)} (h : KeyIn U m) (k : KeyIn V n) : KeyIn (U ++ V) (m ++ n) := by
  intro x hx
  rcases List.mem_append.1 hx with hx | hx
  · obtain ⟨y, hy, e⟩ := h x hx; exact ⟨y, List.mem_append.2 (.inl hy), e⟩
  · obtain ⟨y, hy, e⟩ := k x hx; exact ⟨y, List.mem_append.2 (.inr hy), e⟩
theorem loc_assign {res : Bool} {xs : List O} (h : evIns C cx s (.assign res) xs = some (t, s2, M)) : LocAt (fun s => evIns C cx s (.assign res) xs) s t s2 M := by
  rcases xs with _ | ⟨a, _ | _⟩ <;> simp only [evIns] at h <;> try (simp at h; done)
  split at h
  · rename_i ho
    simp only [Option.some.injEq, Prod.mk.injEq] at h
    obtain ⟨rfl, rfl, rfl⟩ := h
    exact .quiet rfl rfl (fun s' S => by simp only [evIns, S.opv ho])
  · rename_i ho
    simp only [Option.some.injEq, Prod.mk.injEq] at h
    obtain ⟨rfl, rfl, rfl⟩ := h
    exact .quiet rfl rfl (fun s' S => by simp only [evIns, S.opv ho])
  · rename_i h1 h2
    split at h
    case h_2 => simp at h
    rename_i r ag u m ht
    split at h
    case h_2 => simp at h
    rename_i t' hm
    simp only [Option.some.injEq, Prod.mk.injEq] at h
    obtain ⟨rfl, rfl, rfl⟩ := h
    refine ⟨u, rfl, (take_keys ht).1, fun s' S hn => ?_⟩
    cases ho : s.opv a with
    | none => simp [St.take, ho] at ht
    | some t0 =>
      have ho' := S.opv ho
      cases t0 with
      | rad r o => exact absurd ho (h1 _ _)
      | ad p => exact absurd ho (h2 _)
      | _ => simp only [evIns, ho', S.take ht, hm]
theorem loc_box {b : Nat} {xs : List O} (h : evIns C cx s (.box b) xs = some (t, s2, M)) : LocAt (fun s => evIns C cx s (.box b) xs) s t s2 M := by
  rcases xs with _ | ⟨a, _ | _⟩ <;> simp only [evIns] at h <;> try (simp at h; done)
  split at h
  · simp at h
  rename_i hh
  split at h
  case h_2 => simp at h
  rename_i r ag u m ht
  split at h
  case h_2 => simp at h
  rename_i hb
  simp only [Option.some.injEq, Prod.mk.injEq] at h
  obtain ⟨rfl, rfl, rfl⟩ := h
  obtain ⟨k1, k2⟩ := take_keys ht
  obtain ⟨n1, n2⟩ := get_upd_none _ _ _ hb
  refine ⟨u ++ [(b, (.agg r, 0))], by rw [upd_append]; rfl, ?_, fun s' S hn => ?_⟩
  · intro x hx
    rcases List.mem_append.1 hx with hx | hx
    · obtain ⟨y, hy, e⟩ := k1 x hx; exact ⟨y, List.mem_cons_of_mem _ hy, e⟩
    · rw [List.mem_singleton.1 hx]
      exact ⟨_, List.mem_cons_self, rfl⟩
  · have hb' : (s'.upd u).get b = none := by
      rw [get_upd_ne u s' b n2]
      exact hn _ (List.mem_append.2 (.inr (List.mem_singleton_self _))) n1
    simp only [evIns, if_neg hh, S.take ht, hb']
    rw [upd_append]; rfl
theorem loc_fld {off : Nat} {xs : List O} (h : evIns C cx s (.fld off) xs = some (t, s2, M)) : LocAt (fun s => evIns C cx s (.fld off) xs) s t s2 M := by
  rcases xs with _ | ⟨a, _ | _⟩ <;> simp only [evIns] at h <;> try (simp at h; done)
  split at h
  · rename_i ho
    simp only [Option.some.injEq, Prod.mk.injEq] at h
    obtain ⟨rfl, rfl, rfl⟩ := h
    exact .quiet rfl rfl (fun s' S => by simp only [evIns, S.opv ho])
  · rename_i p ho
    split at h
    case isFalse => simp at h
    rename_i hp
    simp only [Option.some.injEq, Prod.mk.injEq] at h
    obtain ⟨rfl, rfl, rfl⟩ := h
    obtain ⟨y, hy⟩ := Option.isSome_iff_exists.1 hp
    exact .quiet rfl rfl (fun s' S => by simp only [evIns, S.opv ho, S.place hy, Option.isSome_some, if_true])
  · rename_i ho
    simp only [Option.some.injEq, Prod.mk.injEq] at h
    obtain ⟨rfl, rfl, rfl⟩ := h
    exact .quiet rfl rfl (fun s' S => by simp only [evIns, S.opv ho])
  · simp at h
theorem loc_ida {sz : Nat} {xs : List O} (h : evIns C cx s (.ida sz) xs = some (t, s2, M)) : LocAt (fun s => evIns C cx s (.ida sz) xs) s t s2 M := by
  rcases xs with _ | ⟨a, _ | ⟨b, _ | _⟩⟩ <;> simp only [evIns] at h <;> try (simp at h; done)
  split at h
  case h_2 => simp at h
  rename_i n v hn hv
  split at h
  case isFalse => simp at h
  rename_i hc
  split at h
  · rename_i p lo c hp
    simp only [Option.some.injEq, Prod.mk.injEq] at h
    obtain ⟨rfl, rfl, rfl⟩ := h
    exact .quiet rfl rfl (fun s' S => by simp only [evIns, S.int hn, S.slice hv, if_pos hc, hp])
  · rename_i hp
    split at h
    case h_2 => simp at h
    rename_i r hr
    simp only [Option.some.injEq, Prod.mk.injEq] at h
    obtain ⟨rfl, rfl, rfl⟩ := h
    exact .quiet rfl rfl (fun s' S => by simp only [evIns, S.int hn, S.slice hv, if_pos hc, hp, hr])
theorem loc_idarr {len sz : Nat} {xs : List O} (h : evIns C cx s (.idarr len sz) xs = some (t, s2, M)) : LocAt (fun s => evIns C cx s (.idarr len sz) xs) s t s2 M := by
  rcases xs with _ | ⟨a, _ | ⟨b, _ | _⟩⟩ <;> simp only [evIns] at h <;> try (simp at h; done)
  split at h
  case h_2 => simp at h
  rename_i n v hn hv
  split at h
  case isFalse => simp at h
  rename_i hc
  split at h
  · simp only [Option.some.injEq, Prod.mk.injEq] at h
    obtain ⟨rfl, rfl, rfl⟩ := h
    exact .quiet rfl rfl (fun s' S => by simp only [evIns, S.int hn, S.opv hv, if_pos hc])
  · rename_i p
    split at h
    case isFalse => simp at h
    rename_i hp
    simp only [Option.some.injEq, Prod.mk.injEq] at h
    obtain ⟨rfl, rfl, rfl⟩ := h
    obtain ⟨y, hy⟩ := Option.isSome_iff_exists.1 hp
    exact .quiet rfl rfl (fun s' S => by simp only [evIns, S.int hn, S.opv hv, if_pos hc, S.place hy, Option.isSome_some, if_true])
  · simp only [Option.some.injEq, Prod.mk.injEq] at h
    obtain ⟨rfl, rfl, rfl⟩ := h
    exact .quiet rfl rfl (fun s' S => by simp only [evIns, S.int hn, S.opv hv, if_pos hc])
  · simp at h
end
end Pv

set_option linter.unusedVariables false
set_option linter.unusedSimpArgs false
namespace Pv
open Go
section
variable {s s' s2 : St} {cx : Cx} {C : Orc} {t : T} {M : List (Nat × Nat)}
theorem loc_load1 {xs : List O} (h : evIns C cx s (.load none) xs = some (t, s2, M)) : LocAt (fun s => evIns C cx s (.load none) xs) s t s2 M := by
  rcases xs with _ | ⟨a, _ | _⟩ <;> simp only [evIns] at h <;> try (simp at h; done)
  split at h
  · rename_i r o ho
    split at h
    case h_2 => simp at h
    rename_i v hv
    simp only [Option.some.injEq, Prod.mk.injEq] at h
    obtain ⟨rfl, rfl, rfl⟩ := h
    exact .quiet rfl rfl (fun s' S => by simp only [evIns, S.opv ho, hv])
  · rename_i hn
    split at h
    case h_2 => simp at h
    rename_i p hp
    split at h
    case h_2 => simp at h
    rename_i v hv
    split at h
    case h_2 => simp at h
    rename_i t0 ht
    simp only [Option.some.injEq, Prod.mk.injEq] at h
    obtain ⟨rfl, rfl, rfl⟩ := h
    refine .quiet rfl rfl (fun s' S => ?_)
    have hp' := S.addr hp (cell_get hv)
    cases ho : s.opv a with
    | none => simp [addrPl, ho] at hp
    | some t1 =>
      cases t1 with
      | rad r o => exact absurd ho (hn _ _)
      | _ => simp only [evIns, S.opv ho, hp', S.cell hv, ht]
theorem loc_loadN {n : Nat} {xs : List O} (h : evIns C cx s (.load (some n)) xs = some (t, s2, M)) : LocAt (fun s => evIns C cx s (.load (some n)) xs) s t s2 M := by
  rcases xs with _ | ⟨a, _ | _⟩ <;> simp only [evIns] at h <;> try (simp at h; done)
  split at h
  · rename_i r o ho
    split at h
    case isFalse => simp at h
    rename_i hv
    simp only [Option.some.injEq, Prod.mk.injEq] at h
    obtain ⟨rfl, rfl, rfl⟩ := h
    exact .quiet rfl rfl (fun s' S => by simp only [evIns, S.opv ho, if_pos hv])
  · rename_i hn
    split at h
    case h_2 => simp at h
    rename_i p hp
    split at h
    case h_2 => simp at h
    rename_i v hv
    simp only [Option.some.injEq, Prod.mk.injEq] at h
    obtain ⟨rfl, rfl, rfl⟩ := h
    refine .quiet rfl rfl (fun s' S => ?_)
    have hp' := S.addr hp (cells_get hv)
    cases ho : s.opv a with
    | none => simp [addrPl, ho] at hp
    | some t1 =>
      cases t1 with
      | rad r o => exact absurd ho (hn _ _)
      | _ => simp only [evIns, S.opv ho, hp', S.cells hv]
theorem loc_store {res : Bool} {n : Nat} {xs : List O} (h : evIns C cx s (.store res n) xs = some (t, s2, M)) : LocAt (fun s => evIns C cx s (.store res n) xs) s t s2 M := by
  rcases xs with _ | ⟨a, _ | ⟨x, _ | _⟩⟩ <;> simp only [evIns] at h <;> try (simp at h; done)
  split at h
  case h_2 => simp at h
  rename_i r ag u m ht
  split at h
  case h_2 => simp at h
  rename_i p hp
  split at h
  · simp at h
  rename_i c1
  split at h
  · simp at h
  rename_i c2
  split at h
  · simp at h
  rename_i c3
  split at h
  case h_2 => simp at h
  rename_i old ho
  split at h
  case h_2 => simp at h
  rename_i u2 hu
  simp only [Option.some.injEq, Prod.mk.injEq] at h
  obtain ⟨rfl, rfl, rfl⟩ := h
  obtain ⟨k1, k2⟩ := take_keys ht
  obtain ⟨k3, _⟩ := put_keys hu
  refine ⟨u ++ u2, by rw [upd_append], k1.append (fun y hy => ⟨_, List.mem_singleton_self _, (k3 y hy).symm⟩), fun s' S hn => ?_⟩
  have S' := Sub.upd u S
  simp only [evIns, S.take ht, S'.addr hp (cells_get ho), if_neg c1, if_neg c2, if_neg c3, S'.cells ho, S'.put hu]
  rw [upd_append]
theorem loc_field1 {off : Nat} {xs : List O} (h : evIns C cx s (.fieldV off none) xs = some (t, s2, M)) : LocAt (fun s => evIns C cx s (.fieldV off none) xs) s t s2 M := by
  rcases xs with _ | ⟨a, _ | _⟩ <;> simp only [evIns] at h <;> try (simp at h; done)
  split at h
  · rename_i r i ho
    split at h
    case h_2 => simp at h
    rename_i v hv
    split at h
    case h_2 => simp at h
    rename_i t0 ht
    simp only [Option.some.injEq, Prod.mk.injEq] at h
    obtain ⟨rfl, rfl, rfl⟩ := h
    exact .quiet rfl rfl (fun s' S => by simp only [evIns, S.opv ho, hv, S.tmpo ho, ht])
  · rename_i p m ho
    split at h
    case h_2 => simp at h
    rename_i v hv
    split at h
    case h_2 => simp at h
    rename_i t0 ht
    simp only [Option.some.injEq, Prod.mk.injEq] at h
    obtain ⟨rfl, rfl, rfl⟩ := h
    exact .quiet rfl rfl (fun s' S => by simp only [evIns, S.opv ho, hv, ht])
  · simp at h
theorem loc_fieldN {off n : Nat} {xs : List O} (h : evIns C cx s (.fieldV off (some n)) xs = some (t, s2, M)) : LocAt (fun s => evIns C cx s (.fieldV off (some n)) xs) s t s2 M := by
  rcases xs with _ | ⟨a, _ | _⟩ <;> simp only [evIns] at h <;> try (simp at h; done)
  split at h
  · rename_i r i ho
    split at h
    case isFalse => simp at h
    rename_i hv
    simp only [Option.some.injEq, Prod.mk.injEq] at h
    obtain ⟨rfl, rfl, rfl⟩ := h
    exact .quiet rfl rfl (fun s' S => by simp only [evIns, S.opv ho, if_pos hv, S.tmpo ho])
  · rename_i p m ho
    split at h
    case isFalse => simp at h
    rename_i hv
    simp only [Option.some.injEq, Prod.mk.injEq] at h
    obtain ⟨rfl, rfl, rfl⟩ := h
    exact .quiet rfl rfl (fun s' S => by simp only [evIns, S.opv ho, if_pos hv])
  · simp at h
theorem loc_idxV {len sz : Nat} {n : Option Nat} {xs : List O} (h : evIns C cx s (.idxV len sz n) xs = some (t, s2, M)) : LocAt (fun s => evIns C cx s (.idxV len sz n) xs) s t s2 M := by
  rcases xs with _ | ⟨a, _ | ⟨i, _ | _⟩⟩ <;> simp only [evIns] at h <;> try (simp at h; done)
  split at h
  case h_2 => simp at h
  rename_i r k hr hk
  split at h
  case isFalse => simp at h
  rename_i hc
  split at h
  · split at h
    case h_2 => simp at h
    rename_i v hv
    split at h
    case isFalse => simp at h
    rename_i hno
    simp only [Option.some.injEq, Prod.mk.injEq] at h
    obtain ⟨rfl, rfl, rfl⟩ := h
    exact .quiet rfl rfl (fun s' S => by simp only [evIns, S.look hr, S.int hk, if_pos hc, hv, if_pos hno])
  · split at h
    case isFalse => simp at h
    rename_i hno
    simp only [Option.some.injEq, Prod.mk.injEq] at h
    obtain ⟨rfl, rfl, rfl⟩ := h
    exact .quiet rfl rfl (fun s' S => by simp only [evIns, S.look hr, S.int hk, if_pos hc, if_pos hno])
theorem loc_idxS {xs : List O} (h : evIns C cx s .idxS xs = some (t, s2, M)) : LocAt (fun s => evIns C cx s .idxS xs) s t s2 M := by
  rcases xs with _ | ⟨a, _ | ⟨i, _ | _⟩⟩ <;> simp only [evIns] at h <;> try (simp at h; done)
  split at h
  case h_2 => simp at h
  rename_i r k hr hk
  split at h
  case isFalse => simp at h
  rename_i hc
  split at h
  case h_2 => simp at h
  rename_i v hv
  simp only [Option.some.injEq, Prod.mk.injEq] at h
  obtain ⟨rfl, rfl, rfl⟩ := h
  exact .quiet rfl rfl (fun s' S => by simp only [evIns, S.sc hr, S.int hk, if_pos hc, hv])
theorem takeL_loc : ∀ (xs : List O) {s s2 : St} {rs : List (List V)} {M : List (Nat × Nat)}, takeL s cx xs = some (rs, s2, M) → ∃ U : Upd, s2 = s.upd U ∧ KeyIn U M ∧ ∀ s', Sub s s' → takeL s' cx xs = some (rs, s'.upd U, M)
  | [], s, s2, rs, M, h => by
    simp only [takeL, Option.some.injEq, Prod.mk.injEq] at h
    obtain ⟨rfl, rfl, rfl⟩ := h
    exact ⟨[], rfl, by simp [KeyIn], fun s' S => rfl⟩
  | x :: xs, s, s2, rs, M, h => by
    simp only [takeL] at h
    split at h
    case h_2 => simp at h
    rename_i r ag u m ht
    split at h
    case h_2 => simp at h
    rename_i rs' s1 m' ht2
    simp only [Option.some.injEq, Prod.mk.injEq] at h
    obtain ⟨rfl, rfl, rfl⟩ := h
    obtain ⟨U, k1, k2, k3⟩ := takeL_loc xs ht2
    refine ⟨u ++ U, by rw [upd_append, k1], (take_keys ht).1.append k2, fun s' S => ?_⟩
    simp only [takeL, S.take ht, k3 _ (Sub.upd u S), upd_append]
theorem loc_build {z : List V} {ps : List (Nat × Nat)} {xs : List O} (h : evIns C cx s (.build z ps) xs = some (t, s2, M)) : LocAt (fun s => evIns C cx s (.build z ps) xs) s t s2 M := by
  simp only [evIns] at h
  split at h
  case h_2 => simp at h
  rename_i rs s1 m ht
  split at h
  case h_2 => simp at h
  rename_i r hr
  simp only [Option.some.injEq, Prod.mk.injEq] at h
  obtain ⟨rfl, rfl, rfl⟩ := h
  obtain ⟨U, k1, k2, k3⟩ := takeL_loc xs ht
  exact ⟨U, k1, k2, fun s' S _ => by simp only [evIns, k3 s' S, hr]⟩
theorem loc_bsl {sz len : Nat} {z : List V} {ps : List Nat} {xs : List O} (h : evIns C cx s (.bsl sz z len ps) xs = some (t, s2, M)) : LocAt (fun s => evIns C cx s (.bsl sz z len ps) xs) s t s2 M := by
  simp only [evIns] at h
  split at h
  case h_2 => simp at h
  rename_i rs s1 m ht
  split at h
  case isFalse => simp at h
  rename_i hc
  split at h
  case h_2 => simp at h
  rename_i r hr
  simp only [Option.some.injEq, Prod.mk.injEq] at h
  obtain ⟨rfl, rfl, rfl⟩ := h
  obtain ⟨U, k1, k2, k3⟩ := takeL_loc xs ht
  exact ⟨U, k1, k2, fun s' S _ => by simp only [evIns, k3 s' S, if_pos hc, hr]⟩
theorem loc_mks {sz bytes : Nat} {z : List V} {xs : List O} (h : evIns C cx s (.mks sz z bytes) xs = some (t, s2, M)) : LocAt (fun s => evIns C cx s (.mks sz z bytes) xs) s t s2 M := by
  rcases xs with _ | ⟨a, _ | ⟨b, _ | _⟩⟩ <;> simp only [evIns] at h <;> try (simp at h; done)
  split at h
  case h_2 => simp at h
  rename_i x y hx hy
  split at h
  case isFalse => simp at h
  rename_i hc
  simp only [Option.some.injEq, Prod.mk.injEq] at h
  obtain ⟨rfl, rfl, rfl⟩ := h
  exact .quiet rfl rfl (fun s' S => by simp only [evIns, S.int hx, S.int hy, if_pos hc])
theorem mapM_int (S : Sub s s') : ∀ (xs : List O) {is : List Int}, xs.mapM s.int = some is → xs.mapM s'.int = some is
  | [], is, h => by simpa using h
  | x :: xs, is, h => by
    rw [List.mapM_cons] at h ⊢
    cases hx : s.int x with
    | none => simp [hx] at h
    | some n =>
      cases hr : xs.mapM s.int with
      | none => simp [hx, hr] at h
      | some ns =>
        rw [S.int hx, mapM_int S xs hr]
        simpa [hx, hr] using h
theorem loc_slc {sz : Nat} {lo hi mx : Bool} {xs : List O} (h : evIns C cx s (.slc sz lo hi mx) xs = some (t, s2, M)) : LocAt (fun s => evIns C cx s (.slc sz lo hi mx) xs) s t s2 M := by
  rcases xs with _ | ⟨x, bs⟩ <;> simp only [evIns] at h <;> try (simp at h; done)
  cases hv : s.slice x with
  | none => simp [hv] at h
  | some v =>
    cases his : bs.mapM s.int with
    | none => simp [hv, his] at h
    | some is =>
      simp only [hv, his] at h
      obtain ⟨L, hL⟩ : ∃ L : Int, (if lo = true then is.getD 0 0 else 0) = L := ⟨_, rfl⟩
      obtain ⟨H, hH⟩ : ∃ H : Int, (if hi = true then is.getD (if lo = true then 1 else 0) 0 else (v.rows.length : Int)) = H := ⟨_, rfl⟩
      obtain ⟨B, hB⟩ : ∃ B : Bool, (mx && is.getD (if lo = true then 2 else 1) 0 != H) = B := ⟨_, rfl⟩
      rw [hL, hH, hB] at h
      by_cases c1 : v.sz ≠ sz
      · rw [if_pos c1] at h; simp at h
      rw [if_neg c1] at h
      by_cases c2 : B = true
      · rw [if_pos c2] at h; simp at h
      rw [if_neg c2] at h
      by_cases c3 : 0 ≤ L ∧ L ≤ H ∧ H ≤ (v.rows.length : Int)
      case neg => rw [if_neg c3] at h; simp at h
      rw [if_pos c3] at h
      have go : ∀ s', Sub s s' → evIns C cx s' (.slc sz lo hi mx) (x :: bs) = (match v.p with
        | some (p, 0, false) => some (T.slb p L.toNat H.toNat mx, s', [])
        | some _ => none
        | none => if mx = true then none else some (T.one (V.sl v.lab.inner v.sz ((v.rows.drop L.toNat).take (H.toNat - L.toNat))), s', [])) := by
        intro s' S
        simp only [evIns, S.slice hv, mapM_int S bs his]
        rw [hL, hH, hB, if_neg c1, if_neg c2, if_pos c3]
        rfl
      split at h
      · rename_i p hp
        simp only [Option.some.injEq, Prod.mk.injEq] at h
        obtain ⟨rfl, rfl, rfl⟩ := h
        exact .quiet rfl rfl (fun s' S => by simp only [go s' S, hp])
      · simp at h
      · rename_i hp
        by_cases c4 : mx = true
        · rw [if_pos c4] at h; simp at h
        rw [if_neg c4] at h
        simp only [Option.some.injEq, Prod.mk.injEq] at h
        obtain ⟨rfl, rfl, rfl⟩ := h
        exact .quiet rfl rfl (fun s' S => by rw [go s' S, hp]; exact if_neg c4)
end
end Pv

set_option linter.unusedVariables false
set_option linter.unusedSimpArgs false
namespace Pv
open Go
section
variable {s s' s2 : St} {cx : Cx} {C : Orc} {t : T} {M : List (Nat × Nat)}
theorem loc_app {sz bytes : Nat} {xs : List O} (h : evIns C cx s (.app sz bytes) xs = some (t, s2, M)) : LocAt (fun s => evIns C cx s (.app sz bytes) xs) s t s2 M := by
  rcases xs with _ | ⟨x, _ | ⟨y, _ | _⟩⟩ <;> simp only [evIns] at h <;> try (simp at h; done)
  cases hy : s.slice y with
  | none => simp [hy] at h
  | some vy =>
    simp only [hy] at h
    by_cases c1 : sz ≠ vy.sz ∨ (vy.rows.any fun r => r.any V.isDead) = true
    · rw [if_pos c1] at h; simp at h
    rw [if_neg c1] at h
    have mid : ∀ s1 m1, (if (vy.rows.all fun r => r.all V.noOwn) = true then some (s, []) else match vy.p with
        | some (p, 0, false) => if cx.moves false p = true then (match s.put p [.dead] false with | some u => some (s.upd u, [(p.r, p.path.length)]) | none => none) else none
        | _ => none) = some (s1, m1) → ∃ U : Upd, s1 = s.upd U ∧ KeyIn U m1 ∧ ∀ s', Sub s s' → (if (vy.rows.all fun r => r.all V.noOwn) = true then some (s', []) else match vy.p with
        | some (p, 0, false) => if cx.moves false p = true then (match s'.put p [.dead] false with | some u => some (s'.upd u, [(p.r, p.path.length)]) | none => none) else none
        | _ => none) = some (s'.upd U, m1) := by
      intro s1 m1 hm
      by_cases ca : (vy.rows.all fun r => r.all V.noOwn) = true
      · rw [if_pos ca] at hm
        simp only [Option.some.injEq, Prod.mk.injEq] at hm
        obtain ⟨rfl, rfl⟩ := hm
        exact ⟨[], rfl, by simp [KeyIn], fun s' S => by rw [if_pos ca]; rfl⟩
      · rw [if_neg ca] at hm
        split at hm
        case h_2 => simp at hm
        rename_i p hp
        split at hm
        case isFalse => simp at hm
        rename_i cm
        split at hm
        case h_2 => simp at hm
        rename_i u hu
        simp only [Option.some.injEq, Prod.mk.injEq] at hm
        obtain ⟨rfl, rfl⟩ := hm
        obtain ⟨k1, _⟩ := put_keys hu
        exact ⟨u, rfl, fun x hx => ⟨_, List.mem_singleton_self _, (k1 x hx).symm⟩, fun s' S => by simp only [if_neg ca, hp, if_pos cm, S.put hu]⟩
    split at h
    case h_2 => simp at h
    rename_i s1 m1 hm
    obtain ⟨U, q1, q2, q3⟩ := mid s1 m1 hm
    cases hx : s1.slice x with
    | none => simp [hx] at h
    | some vx =>
      simp only [hx] at h
      by_cases c2 : sz ≠ vx.sz ∨ (vx.rows.length + vy.rows.length) * bytes > 2 ^ 47
      · rw [if_pos c2] at h; simp at h
      rw [if_neg c2] at h
      split at h
      · rename_i p lo c hp
        split at h
        case h_2 => simp at h
        rename_i u hu
        simp only [Option.some.injEq, Prod.mk.injEq] at h
        obtain ⟨rfl, rfl, rfl⟩ := h
        obtain ⟨k1, _⟩ := put_keys hu
        refine ⟨U ++ u, by rw [upd_append, q1], ?_, fun s' S _ => ?_⟩
        · intro z hz
          rcases List.mem_append.1 hz with hz | hz
          · obtain ⟨y, hy, e⟩ := q2 z hz; exact ⟨y, List.mem_cons_of_mem _ hy, e⟩
          · exact ⟨_, List.mem_cons_self, (k1 z hz).symm⟩
        · have S' : Sub s1 (s'.upd U) := by rw [q1]; exact Sub.upd U S
          simp only [evIns, S.slice hy, if_neg c1]
          split
          · rename_i sa ma heq
            have e := Eq.trans heq.symm (q3 s' S)
            simp only [Option.some.injEq, Prod.mk.injEq] at e
            obtain ⟨rfl, rfl⟩ := e
            simp only [S'.slice hx, if_neg c2, hp, S'.put hu, upd_append]
          · rename_i heq
            have e := Eq.trans heq.symm (q3 s' S)
            simp at e
      · rename_i y0 hp
        simp only [Option.some.injEq, Prod.mk.injEq] at h
        obtain ⟨rfl, rfl, rfl⟩ := h
        refine ⟨U, q1, q2, fun s' S _ => ?_⟩
        have S' : Sub s1 (s'.upd U) := by rw [q1]; exact Sub.upd U S
        simp only [evIns, S.slice hy, if_neg c1]
        split
        · rename_i sa ma heq
          have e := Eq.trans heq.symm (q3 s' S)
          simp only [Option.some.injEq, Prod.mk.injEq] at e
          obtain ⟨rfl, rfl⟩ := e
          simp only [S'.slice hx, if_neg c2, hp]
        · rename_i heq
          have e := Eq.trans heq.symm (q3 s' S)
          simp at e
      · simp at h
theorem loc_len {xs : List O} (h : evIns C cx s .len xs = some (t, s2, M)) : LocAt (fun s => evIns C cx s .len xs) s t s2 M := by
  rcases xs with _ | ⟨a, _ | _⟩ <;> simp only [evIns] at h <;> try (simp at h; done)
  split at h
  case h_2 => simp at h
  rename_i x hx
  simp only [Option.some.injEq, Prod.mk.injEq] at h
  obtain ⟨rfl, rfl, rfl⟩ := h
  exact .quiet rfl rfl (fun s' S => by simp only [evIns, S.slice hx])
theorem loc_lenS {xs : List O} (h : evIns C cx s .lenS xs = some (t, s2, M)) : LocAt (fun s => evIns C cx s .lenS xs) s t s2 M := by
  rcases xs with _ | ⟨a, _ | _⟩ <;> simp only [evIns] at h <;> try (simp at h; done)
  split at h
  case h_2 => simp at h
  rename_i x hx
  simp only [Option.some.injEq, Prod.mk.injEq] at h
  obtain ⟨rfl, rfl, rfl⟩ := h
  exact .quiet rfl rfl (fun s' S => by simp only [evIns, S.sc hx])
theorem loc_lenM {xs : List O} (h : evIns C cx s .lenM xs = some (t, s2, M)) : LocAt (fun s => evIns C cx s .lenM xs) s t s2 M := by
  rcases xs with _ | ⟨a, _ | _⟩ <;> simp only [evIns] at h <;> try (simp at h; done)
  split at h
  case h_2 => simp at h
  rename_i hx
  simp only [Option.some.injEq, Prod.mk.injEq] at h
  obtain ⟨rfl, rfl, rfl⟩ := h
  exact .quiet rfl rfl (fun s' S => by simp only [evIns, S.mapOf hx])
theorem loc_lenC {n : Nat} {xs : List O} (h : evIns C cx s (.lenC n) xs = some (t, s2, M)) : LocAt (fun s => evIns C cx s (.lenC n) xs) s t s2 M := by
  rcases xs with _ | ⟨a, _ | _⟩ <;> simp only [evIns] at h <;> try (simp at h; done)
  simp only [Option.some.injEq, Prod.mk.injEq] at h
  obtain ⟨rfl, rfl, rfl⟩ := h
  exact .quiet rfl rfl (fun s' S => by simp only [evIns])
theorem loc_mn {xs : List O} (h : evIns C cx s .mn xs = some (t, s2, M)) : LocAt (fun s => evIns C cx s .mn xs) s t s2 M := by
  rcases xs with _ | ⟨a, _ | ⟨b, _ | _⟩⟩ <;> simp only [evIns] at h <;> try (simp at h; done)
  split at h
  case h_2 => simp at h
  rename_i x y hx hy
  simp only [Option.some.injEq, Prod.mk.injEq] at h
  obtain ⟨rfl, rfl, rfl⟩ := h
  exact .quiet rfl rfl (fun s' S => by simp only [evIns, S.sc hx, S.sc hy])
theorem loc_mx {xs : List O} (h : evIns C cx s .mx xs = some (t, s2, M)) : LocAt (fun s => evIns C cx s .mx xs) s t s2 M := by
  rcases xs with _ | ⟨a, _ | ⟨b, _ | _⟩⟩ <;> simp only [evIns] at h <;> try (simp at h; done)
  split at h
  case h_2 => simp at h
  rename_i x y hx hy
  simp only [Option.some.injEq, Prod.mk.injEq] at h
  obtain ⟨rfl, rfl, rfl⟩ := h
  exact .quiet rfl rfl (fun s' S => by simp only [evIns, S.sc hx, S.sc hy])
theorem loc_nilchk {xs : List O} (h : evIns C cx s .nilchk xs = some (t, s2, M)) : LocAt (fun s => evIns C cx s .nilchk xs) s t s2 M := by
  rcases xs with _ | ⟨a, _ | _⟩ <;> simp only [evIns] at h <;> try (simp at h; done)
  split at h
  · rename_i ho
    simp only [Option.some.injEq, Prod.mk.injEq] at h
    obtain ⟨rfl, rfl, rfl⟩ := h
    exact .quiet rfl rfl (fun s' S => by simp only [evIns, S.opv ho])
  · rename_i ho
    simp only [Option.some.injEq, Prod.mk.injEq] at h
    obtain ⟨rfl, rfl, rfl⟩ := h
    exact .quiet rfl rfl (fun s' S => by simp only [evIns, S.opv ho])
  · rename_i p ho
    split at h
    case isFalse => simp at h
    rename_i hp
    simp only [Option.some.injEq, Prod.mk.injEq] at h
    obtain ⟨rfl, rfl, rfl⟩ := h
    obtain ⟨y, hy⟩ := Option.isSome_iff_exists.1 hp
    exact .quiet rfl rfl (fun s' S => by simp only [evIns, S.opv ho, S.place hy, Option.isSome_some, if_true])
  · rename_i ho
    simp only [Option.some.injEq, Prod.mk.injEq] at h
    obtain ⟨rfl, rfl, rfl⟩ := h
    exact .quiet rfl rfl (fun s' S => by simp only [evIns, S.opv ho])
  · simp at h
theorem Sub.part (S : Sub s s') {d i : Nat} {x : T × Upd × List (Nat × Nat)} (h : s.takePart cx d i = some x) : s'.takePart cx d i = some x := by
  cases hg : s.get (tupAt d i) with
  | none => simp [St.takePart, hg] at h
  | some y =>
    obtain ⟨t, v⟩ := y
    simp only [St.takePart, hg, S _ _ hg] at h ⊢
    split at h
    case h_2 => simp at h
    rename_i r hr
    cases ht : s.takeAt cx true ⟨tupAt d i, 0, [], v⟩ r r t.isAgg with
    | none => simp [ht] at h
    | some z => simp only [hr, ht, S.takeAt ht] at h ⊢; exact h
theorem part_keys {d i : Nat} {t : T} {u : Upd} {m : List (Nat × Nat)} (h : s.takePart cx d i = some (t, u, m)) : KeyIn u m := by
  simp only [St.takePart] at h
  split at h
  case h_2 => simp at h
  split at h
  case h_2 => simp at h
  split at h
  case h_2 => simp at h
  rename_i ht
  split at h
  case h_2 => simp at h
  simp only [Option.some.injEq, Prod.mk.injEq] at h
  obtain ⟨rfl, rfl, rfl⟩ := h
  exact (takeAt_keys ht).1
theorem loc_ext {i : Nat} {xs : List O} (h : evIns C cx s (.ext i) xs = some (t, s2, M)) : LocAt (fun s => evIns C cx s (.ext i) xs) s t s2 M := by
  rcases xs with _ | ⟨a | a, _ | _⟩ <;> simp only [evIns] at h <;> try (simp at h; done)
  split at h
  case h_2 => simp at h
  rename_i t0 u m hx
  simp only [Option.some.injEq, Prod.mk.injEq] at h
  obtain ⟨rfl, rfl, rfl⟩ := h
  exact ⟨u, rfl, part_keys hx, fun s' S _ => by simp only [evIns, S.part hx]⟩
theorem takeTup_loc {d : Nat} : ∀ (n : Nat) {s s2 : St} {i : Nat} {rs : List T} {M : List (Nat × Nat)}, takeTup cx d s i n = some (rs, s2, M) → ∃ U : Upd, s2 = s.upd U ∧ KeyIn U M ∧ ∀ s', Sub s s' → takeTup cx d s' i n = some (rs, s'.upd U, M)
  | 0, s, s2, i, rs, M, h => by
    simp only [takeTup, Option.some.injEq, Prod.mk.injEq] at h
    obtain ⟨rfl, rfl, rfl⟩ := h
    exact ⟨[], rfl, by simp [KeyIn], fun s' S => rfl⟩
  | n + 1, s, s2, i, rs, M, h => by
    simp only [takeTup] at h
    split at h
    case h_2 => simp at h
    rename_i r u m ht
    split at h
    case h_2 => simp at h
    rename_i rs' s1 m' ht2
    simp only [Option.some.injEq, Prod.mk.injEq] at h
    obtain ⟨rfl, rfl, rfl⟩ := h
    obtain ⟨U, k1, k2, k3⟩ := takeTup_loc n ht2
    refine ⟨u ++ U, by rw [upd_append, k1], (part_keys ht).append k2, fun s' S => ?_⟩
    simp only [takeTup, S.part ht, k3 _ (Sub.upd u S), upd_append]
theorem loc_move {xs : List O} (h : evIns C cx s .move xs = some (t, s2, M)) : LocAt (fun s => evIns C cx s .move xs) s t s2 M := by
  rcases xs with _ | ⟨a, _ | _⟩ <;> simp only [evIns] at h <;> try (simp at h; done)
  cases ho : s.opv a with
  | none => simp [ho] at h
  | some t0 =>
    cases a with
    | c y =>
      cases t0 <;> simp only [ho, Option.some.injEq, Prod.mk.injEq] at h <;> try (simp at h; done)
      all_goals
        obtain ⟨rfl, rfl, rfl⟩ := h
        exact .quiet rfl rfl (fun s' S => by simp only [evIns, S.opv ho])
    | t i =>
      cases t0 with
      | tup ts =>
        simp only [ho] at h
        split at h
        · simp at h
        rename_i hl
        split at h
        case h_2 => simp at h
        rename_i us s1 M1 ht
        simp only [Option.some.injEq, Prod.mk.injEq] at h
        obtain ⟨rfl, rfl, rfl⟩ := h
        obtain ⟨U, k1, k2, k3⟩ := takeTup_loc _ ht
        exact ⟨U, k1, k2, fun s' S _ => by simp only [evIns, S.opv ho, if_neg hl, k3 s' S]⟩
      | mp r ka va ks vs => simp [ho] at h
      | one v =>
        simp only [ho, Option.some.injEq, Prod.mk.injEq] at h
        obtain ⟨rfl, rfl, rfl⟩ := h
        exact .quiet rfl rfl (fun s' S => by simp only [evIns, S.opv ho, S.tmpo ho])
      | agg v =>
        simp only [ho, Option.some.injEq, Prod.mk.injEq] at h
        obtain ⟨rfl, rfl, rfl⟩ := h
        exact .quiet rfl rfl (fun s' S => by simp only [evIns, S.opv ho, S.tmpo ho])
      | _ =>
        simp only [ho, Option.some.injEq, Prod.mk.injEq] at h
        obtain ⟨rfl, rfl, rfl⟩ := h
        exact .quiet rfl rfl (fun s' S => by simp only [evIns, S.opv ho])
theorem loc_mset {xs : List O} (h : evIns C cx s .mset xs = some (t, s2, M)) : LocAt (fun s => evIns C cx s .mset xs) s t s2 M := by
  rcases xs with _ | ⟨a, _ | ⟨k, _ | ⟨x, _ | _⟩⟩⟩ <;> simp only [evIns] at h <;> try (simp at h; done)
  split at h
  case h_2 => simp at h
  rename_i r ka va ks vs v hm
  split at h
  case h_2 => simp at h
  rename_i kr xr hk hx
  split at h
  case h_2 => simp at h
  rename_i ks' vs' hs
  simp only [Option.some.injEq, Prod.mk.injEq] at h
  obtain ⟨rfl, rfl, rfl⟩ := h
  refine ⟨[(r, (.mp r ka va ks' vs', v + 1))], rfl, ?_, fun s' S _ => ?_⟩
  · intro z hz
    rw [List.mem_singleton.1 hz]
    exact ⟨_, List.mem_singleton_self _, rfl⟩
  · simp only [evIns, S.mapOf hm, S.flat hk, S.flat hx, hs, upd_one]
theorem loc_mget {z : List V} {ok : Bool} {xs : List O} (h : evIns C cx s (.mget z ok) xs = some (t, s2, M)) : LocAt (fun s => evIns C cx s (.mget z ok) xs) s t s2 M := by
  rcases xs with _ | ⟨a, _ | ⟨k, _ | _⟩⟩ <;> simp only [evIns] at h <;> try (simp at h; done)
  split at h
  case h_2 => simp at h
  rename_i r ka va ks vs v hm
  split at h
  case h_2 => simp at h
  rename_i kr hk
  split at h
  case h_2 => simp at h
  rename_i q hq
  split at h
  case h_2 => simp at h
  rename_i t0 ht
  simp only [Option.some.injEq, Prod.mk.injEq] at h
  obtain ⟨rfl, rfl, rfl⟩ := h
  exact .quiet rfl rfl (fun s' S => by simp only [evIns, S.mapOf hm, S.flat hk, hq, ht])
end
end Pv

set_option linter.unusedVariables false
set_option linter.unusedSimpArgs false
namespace Pv
open Go
section
variable {s s' s2 : St} {cx : Cx} {C : Orc} {t : T} {M : List (Nat × Nat)}
theorem mapM_mkf (S : Sub s s') : ∀ (xs : List O) {vs : List V}, xs.mapM (fun o => match s.opv o with
      | some (.one (.ptr r o)) => some (V.ptr r o)
      | some (.one (.mref r)) => some (V.mref r)
      | some (.one (.sc v)) => some (V.sc v)
      | _ => none) = some vs → xs.mapM (fun o => match s'.opv o with
      | some (.one (.ptr r o)) => some (V.ptr r o)
      | some (.one (.mref r)) => some (V.mref r)
      | some (.one (.sc v)) => some (V.sc v)
      | _ => none) = some vs
  | [], vs, h => by simpa using h
  | x :: xs, vs, h => by
    rw [List.mapM_cons] at h ⊢
    cases hx : s.opv x with
    | none => simp [hx] at h
    | some t0 =>
      have hx' := S.opv hx
      simp only [hx, hx'] at h ⊢
      cases hv : (match some t0 with
      | some (.one (.ptr r o)) => some (V.ptr r o)
      | some (.one (.mref r)) => some (V.mref r)
      | some (.one (.sc v)) => some (V.sc v)
      | _ => none) with
      | none => simp only [hv] at h; simp at h
      | some v =>
        simp only [hv] at h ⊢
        cases hr : xs.mapM (fun o => match s.opv o with
      | some (.one (.ptr r o)) => some (V.ptr r o)
      | some (.one (.mref r)) => some (V.mref r)
      | some (.one (.sc v)) => some (V.sc v)
      | _ => none) with
        | none => simp only [hr] at h; simp at h
        | some ns =>
          rw [mapM_mkf S xs hr]
          rw [hr] at h
          exact h
theorem loc_mkf {f n : Nat} {xs : List O} (h : evIns C cx s (.mkf f n) xs = some (t, s2, M)) : LocAt (fun s => evIns C cx s (.mkf f n) xs) s t s2 M := by
  simp only [evIns] at h
  split at h
  case h_2 => simp at h
  rename_i vs hv
  simp only [Option.some.injEq, Prod.mk.injEq] at h
  obtain ⟨rfl, rfl, rfl⟩ := h
  refine .quiet rfl rfl (fun s' S => ?_)
  have := mapM_mkf S xs hv
  simp only [evIns]
  split
  · rename_i ws hw
    have e := Eq.trans hw.symm this
    obtain rfl := Option.some.inj e
    rfl
  · rename_i hw
    have e := Eq.trans hw.symm this
    simp at e
theorem Sub.hand (S : Sub s s') {o : O} {x : List V × Bool × Option Pl} (h : s.hand o = some x) : s'.hand o = some x := by
  cases ho : s.opv o with
  | none => simp [St.hand, ho] at h
  | some t0 =>
    have ho' := S.opv ho
    cases o with
    | t i =>
      have he := S.tmpo ho
      cases t0 with
      | al p =>
        cases hc : s.cell p with
        | none => simp [St.hand, ho, hc] at h
        | some v => simp only [St.hand, ho, ho', hc, S.cell hc] at h ⊢; exact h
      | ala p n =>
        cases hc : s.merge p n with
        | none => simp [St.hand, ho, hc] at h
        | some v => simp only [St.hand, ho, ho', hc, S.merge hc] at h ⊢; exact h
      | one v => simp only [St.hand, ho, ho', he] at h ⊢; exact h
      | agg v => simp only [St.hand, ho, ho', he] at h ⊢; exact h
      | _ => simp [St.hand, ho] at h
    | c y =>
      cases t0 with
      | al p =>
        cases hc : s.cell p with
        | none => simp [St.hand, ho, hc] at h
        | some v => simp only [St.hand, ho, ho', hc, S.cell hc] at h ⊢; exact h
      | ala p n =>
        cases hc : s.merge p n with
        | none => simp [St.hand, ho, hc] at h
        | some v => simp only [St.hand, ho, ho', hc, S.merge hc] at h ⊢; exact h
      | one v => simp only [St.hand, ho, ho'] at h ⊢; exact h
      | agg v => simp only [St.hand, ho, ho'] at h ⊢; exact h
      | _ => simp [St.hand, ho] at h
theorem Sub.handAll (S : Sub s s') {io : List Nat} : ∀ (os : List O) (j : Nat) {hs : List (List V × Bool × Option Pl)}, (∀ i o, os[i]? = some o → io.contains (j + i) = true → s.opv o ≠ none) → handAll s io j os = some hs → handAll s' io j os = some hs
  | [], j, hs, _, h => by simpa [Pv.handAll] using h
  | o :: os, j, hs, hn, h => by
    simp only [Pv.handAll] at h ⊢
    cases hr : Pv.handAll s io (j + 1) os with
    | none => simp [hr] at h
    | some hs' =>
      have hr' := S.handAll os (j + 1) (fun i o h1 h2 => hn (i + 1) o (by simpa using h1) (by rw [← h2]; congr 1; omega)) hr
      simp only [hr] at h
      simp only [hr']
      by_cases hc : io.contains j = true
      · have ho := hn 0 o rfl hc
        cases ho2 : s.opv o with
        | none => exact absurd ho2 ho
        | some t0 => simp only [if_pos hc, ho2, S.opv ho2] at h ⊢; exact h
      · simp only [if_neg hc] at h ⊢
        cases hh : s.hand o with
        | none => simp [hh] at h
        | some x => simp only [hh, S.hand hh] at h ⊢; exact h
theorem Sub.whole (S : Sub s s') {p : Pl} {v : List V} (h : s.whole p = some v) : s'.whole p = some v := by
  cases hg : s.get p.r with
  | none => simp [St.whole, hg] at h
  | some y => simp only [St.whole, hg, S _ _ hg] at h ⊢; exact h
theorem Sub.takeOne (S : Sub s s') {o : O} {x : Nat × List V} (h : takeOne s o = some x) : takeOne s' o = some x ∧ s.opv o ≠ none := by
  cases ho : s.opv o with
  | none => simp [Pv.takeOne, ho] at h
  | some t0 =>
    refine ⟨?_, by simp⟩
    cases t0 with
    | al p =>
      cases hw : s.whole p with
      | none => simp [Pv.takeOne, ho, hw] at h
      | some v => simp only [Pv.takeOne, ho, S.opv ho, hw, S.whole hw] at h ⊢; exact h
    | ala p n =>
      cases hw : s.whole p with
      | none => simp [Pv.takeOne, ho, hw] at h
      | some v => simp only [Pv.takeOne, ho, S.opv ho, hw, S.whole hw] at h ⊢; exact h
    | _ => simp [Pv.takeOne, ho] at h
theorem Sub.takeIo (S : Sub s s') {as : List O} : ∀ (io : List Nat) {x : List (Nat × List V)}, takeIo s as io = some x → takeIo s' as io = some x ∧ ∀ j ∈ io, ∀ o, as[j]? = some o → s.opv o ≠ none
  | [], x, h => by simpa [Pv.takeIo] using h
  | j :: js, x, h => by
    simp only [Pv.takeIo] at h ⊢
    cases ha : as[j]? with
    | none => simp [ha] at h
    | some o =>
      simp only [ha] at h ⊢
      cases h1 : Pv.takeOne s o with
      | none => simp [h1] at h
      | some y =>
        cases h2 : Pv.takeIo s as js with
        | none => simp [h1, h2] at h
        | some ys =>
          obtain ⟨k1, k2⟩ := S.takeOne h1
          obtain ⟨k3, k4⟩ := S.takeIo js h2
          simp only [h1, h2] at h
          simp only [k1, k3]
          refine ⟨h, fun i hi o' ho' => ?_⟩
          rcases List.mem_cons.1 hi with rfl | hi
          · rw [ha] at ho'
            obtain rfl := Option.some.inj ho'
            exact k2
          · exact k4 i hi o' ho'
theorem reach_mem : ∀ (n : Nat) (todo acc : List Nat) (x : Nat), x ∈ reach s n todo acc → x ∈ acc ∨ ∃ row, s.boxRow x = some row
  | 0, todo, acc, x, h => by simp only [reach] at h; exact .inl h
  | n + 1, [], acc, x, h => by simp only [reach] at h; exact .inl h
  | n + 1, r :: todo, acc, x, h => by
    simp only [reach] at h
    split at h
    · exact reach_mem n _ _ x h
    · split at h
      · rename_i row hrow
        rcases reach_mem n _ _ x h with h | h
        · rcases List.mem_append.1 h with h | h
          · exact .inl h
          · rw [List.mem_singleton.1 h]; exact .inr ⟨row, hrow⟩
        · exact .inr h
      · exact reach_mem n _ _ x h
theorem Sub.reach (S : Sub s s') (bs : List Nat) (hcl : ∀ r ∈ bs, ∀ row, s.boxRow r = some row → ∀ q ∈ row.flatMap ptrsV, q ∈ bs) : ∀ (n : Nat) (todo acc : List Nat), (∀ r ∈ todo, r ∈ bs) → reach s n todo acc = bs → reach s' n todo acc = bs
  | 0, todo, acc, _, h => by simp only [Pv.reach] at h ⊢; exact h
  | n + 1, [], acc, _, h => by simp only [Pv.reach] at h ⊢; exact h
  | n + 1, r :: todo, acc, ht, h => by
    simp only [Pv.reach] at h ⊢
    split at h
    · rename_i hc
      rw [if_pos hc]
      exact S.reach bs hcl n todo acc (fun q hq => ht q (List.mem_cons_of_mem _ hq)) h
    · rename_i hc
      rw [if_neg hc]
      split at h
      · rename_i row hrow
        rw [S.box hrow]
        refine S.reach bs hcl n _ _ (fun q hq => ?_) h
        rcases List.mem_append.1 hq with hq | hq
        · exact ht q (List.mem_cons_of_mem _ hq)
        · exact hcl r (ht r List.mem_cons_self) row hrow q hq
      · rename_i hno
        have := ht r List.mem_cons_self
        rw [← h] at this
        rcases reach_mem n todo acc r this with h1 | ⟨row, h1⟩
        · exact absurd (by simpa using h1) hc
        · rw [hno] at h1; simp at h1
theorem rowsOf_mem : ∀ (bs : List Nat) {rows : List (List V)}, rowsOf s bs = some rows → ∀ r ∈ bs, ∃ row ∈ rows, s.boxRow r = some row
  | [], rows, h, r, hr => by simp at hr
  | b :: bs, rows, h, r, hr => by
    simp only [rowsOf] at h
    split at h
    case h_2 => simp at h
    rename_i x xs h1 h2
    obtain rfl := Option.some.inj h
    rcases List.mem_cons.1 hr with rfl | hr
    · exact ⟨x, List.mem_cons_self, h1⟩
    · obtain ⟨row, k1, k2⟩ := rowsOf_mem bs h2 r hr
      exact ⟨row, List.mem_cons_of_mem _ k1, k2⟩
theorem Sub.rowsOf (S : Sub s s') : ∀ (bs : List Nat) {rows : List (List V)}, rowsOf s bs = some rows → rowsOf s' bs = some rows
  | [], rows, h => by simpa [Pv.rowsOf] using h
  | b :: bs, rows, h => by
    simp only [Pv.rowsOf] at h ⊢
    cases h1 : s.boxRow b with
    | none => simp [h1] at h
    | some x =>
      cases h2 : Pv.rowsOf s bs with
      | none => simp [h1, h2] at h
      | some xs => simp only [h1, h2, S.box h1, S.rowsOf bs h2] at h ⊢; exact h
theorem putRows_loc : ∀ (rs : List Nat) (rows : List (List V)) {s s2 : St}, putRows s rs rows = some s2 → ∃ U : Upd, s2 = s.upd U ∧ (∀ x ∈ U, x.1 ∈ rs) ∧ ∀ s', Sub s s' → putRows s' rs rows = some (s'.upd U)
  | [], rows, s, s2, h => by
    simp only [putRows, Option.some.injEq] at h
    subst h
    exact ⟨[], rfl, by simp, fun s' S => by simp only [putRows]; rfl⟩
  | r :: rs, [], s, s2, h => by simp [putRows] at h
  | r :: rs, row :: rows, s, s2, h => by
    simp only [putRows] at h
    split at h
    case h_2 => simp at h
    rename_i t v hg
    split at h
    case h_2 => simp at h
    rename_i t' ht
    obtain ⟨U, k1, k2, k3⟩ := putRows_loc rs rows h
    refine ⟨(r, (t', v + 1)) :: U, k1, fun x hx => ?_, fun s' S => ?_⟩
    · rcases List.mem_cons.1 hx with rfl | hx
      · exact List.mem_cons_self
      · exact List.mem_cons_of_mem _ (k2 x hx)
    · simp only [putRows, S _ _ hg, ht, k3 _ (S.set r (t', v + 1))]
      rfl
theorem putIo_loc : ∀ (ps : List (Nat × List V)) (rows : List (List V)) {s s2 : St}, putIo s ps rows = some s2 → ∃ U : Upd, s2 = s.upd U ∧ (∀ x ∈ U, ∃ y ∈ ps, y.1 = x.1) ∧ ∀ s', Sub s s' → putIo s' ps rows = some (s'.upd U)
  | [], rows, s, s2, h => by
    simp only [putIo, Option.some.injEq] at h
    subst h
    exact ⟨[], rfl, by simp, fun s' S => by simp only [putIo]; rfl⟩
  | (r, old) :: rs, [], s, s2, h => by simp [putIo] at h
  | (r, old) :: rs, row :: rows, s, s2, h => by
    simp only [putIo] at h
    split at h
    case h_2 => simp at h
    rename_i t v hg
    split at h
    case h_2 => simp at h
    rename_i cur hcur
    split at h
    case isFalse => simp at h
    rename_i hc
    obtain ⟨U, k1, k2, k3⟩ := putIo_loc rs rows h
    refine ⟨(r, (t.back (back3 old cur row), v + 1)) :: U, k1, fun x hx => ?_, fun s' S => ?_⟩
    · rcases List.mem_cons.1 hx with rfl | hx
      · exact ⟨_, List.mem_cons_self, rfl⟩
      · obtain ⟨y, hy, e⟩ := k2 x hx
        exact ⟨y, List.mem_cons_of_mem _ hy, e⟩
    · simp only [putIo, S _ _ hg, hcur, if_pos hc, k3 _ (S.set r (t.back (back3 old cur row), v + 1))]
      rfl
theorem settleNode_loc {p : Pl} {out : Bool} {x : V} (h : settleNode s p out = some (s2, x)) : ∃ U : Upd, s2 = s.upd U ∧ (∀ x ∈ U, x.1 = p.r) ∧ ∀ s', Sub s s' → settleNode s' p out = some (s'.upd U, x) := by
  simp only [settleNode] at h
  split at h
  case h_2 => simp at h
  rename_i sz rows hc
  split at h
  case h_2 => simp at h
  rename_i u hu
  simp only [Option.some.injEq, Prod.mk.injEq] at h
  obtain ⟨rfl, rfl⟩ := h
  exact ⟨u, rfl, (put_keys hu).1, fun s' S => by simp only [settleNode, S.cell hc, S.put hu]⟩
theorem settleRow_loc {mv : Bool} {tops : List V} {p : Pl} : ∀ (r : List V) (n k : Nat) {s s2 : St} {b : List (Nat × V)}, settleRow mv tops p s n k r = some (s2, b) → ∃ U : Upd, s2 = s.upd U ∧ (∀ x ∈ U, x.1 = p.r) ∧ ∀ s', Sub s s' → settleRow mv tops p s' n k r = some (s'.upd U, b)
  | [], n, k, s, s2, b, h => by
    simp only [settleRow, Option.some.injEq, Prod.mk.injEq] at h
    obtain ⟨rfl, rfl⟩ := h
    exact ⟨[], rfl, by simp, fun s' S => by simp only [settleRow]; rfl⟩
  | v :: r, n, k, s, s2, b, h => by
    by_cases hv : ∃ sz rows, v = .sl .own sz rows
    · obtain ⟨sz, rows, rfl⟩ := hv
      simp only [settleRow] at h
      split at h
      · rename_i hc
        obtain ⟨U, k1, k2, k3⟩ := settleRow_loc r _ _ h
        exact ⟨U, k1, k2, fun s' S => by simp only [settleRow, if_pos hc, k3 s' S]⟩
      · rename_i hc
        split at h
        case h_2 => simp at h
        rename_i s1 x hx
        split at h
        case h_2 => simp at h
        rename_i s3 back hb
        simp only [Option.some.injEq, Prod.mk.injEq] at h
        obtain ⟨rfl, rfl⟩ := h
        obtain ⟨U, k1, k2, k3⟩ := settleNode_loc hx
        obtain ⟨V, m1, m2, m3⟩ := settleRow_loc r _ _ hb
        refine ⟨U ++ V, by rw [upd_append, m1, k1], fun x hx => ?_, fun s' S => ?_⟩
        · rcases List.mem_append.1 hx with hx | hx
          · exact (k2 x hx).trans (by unfold shift; split <;> rfl)
          · exact m2 x hx
        · have S' : Sub s1 (s'.upd U) := by rw [k1]; exact Sub.upd U S
          simp only [settleRow, if_neg hc, k3 s' S, m3 _ S', upd_append]
    · have e : ∀ s : St, settleRow mv tops p s n k (v :: r) = settleRow mv tops p s n (k + 1) r := by
        intro s
        cases v with
        | sl l sz rows =>
          cases l with
          | own => exact absurd ⟨sz, rows, rfl⟩ hv
          | _ => simp only [settleRow]
        | _ => simp only [settleRow]
      rw [e] at h
      obtain ⟨U, k1, k2, k3⟩ := settleRow_loc r _ _ h
      exact ⟨U, k1, k2, fun s' S => by rw [e]; exact k3 s' S⟩
theorem settleAll_loc {mv : Bool} {tops : List V} : ∀ (hs : List (List V × Bool × Option Pl)) (n : Nat) {s s2 : St} {b : List (Nat × V)}, settleAll mv tops s n hs = some (s2, b) → ∃ U : Upd, s2 = s.upd U ∧ (∀ x ∈ U, ∃ y ∈ lentTouch hs, y.1 = x.1) ∧ ∀ s', Sub s s' → settleAll mv tops s' n hs = some (s'.upd U, b)
  | [], n, s, s2, b, h => by
    simp only [settleAll, Option.some.injEq, Prod.mk.injEq] at h
    obtain ⟨rfl, rfl⟩ := h
    exact ⟨[], rfl, by simp, fun s' S => by simp only [settleAll]; rfl⟩
  | (r, ag, p) :: hs, n, s, s2, b, h => by
    simp only [settleAll] at h
    split at h
    · rename_i hc
      obtain ⟨U, k1, k2, k3⟩ := settleAll_loc hs _ h
      refine ⟨U, k1, fun x hx => ?_, fun s' S => by simp only [settleAll, if_pos hc, k3 s' S]⟩
      obtain ⟨y, hy, e⟩ := k2 x hx
      exact ⟨y, List.mem_append.2 (.inr hy), e⟩
    · rename_i hc
      split at h
      · simp at h
      rename_i p
      split at h
      case h_2 => simp at h
      rename_i s1 back hx
      split at h
      case h_2 => simp at h
      rename_i s3 back' hb
      simp only [Option.some.injEq, Prod.mk.injEq] at h
      obtain ⟨rfl, rfl⟩ := h
      obtain ⟨U, k1, k2, k3⟩ := settleRow_loc _ _ _ hx
      obtain ⟨V, m1, m2, m3⟩ := settleAll_loc hs _ hb
      refine ⟨U ++ V, by rw [upd_append, m1, k1], fun x hx => ?_, fun s' S => ?_⟩
      · rcases List.mem_append.1 hx with hx | hx
        · refine ⟨(p.r, p.path.length), ?_, (k2 x hx).symm⟩
          simp only [lentTouch, List.flatMap_cons, if_neg hc]
          exact List.mem_append.2 (.inl (List.mem_singleton_self _))
        · obtain ⟨y, hy, e⟩ := m2 x hx
          exact ⟨y, List.mem_append.2 (.inr hy), e⟩
      · have S' : Sub s1 (s'.upd U) := by rw [k1]; exact Sub.upd U S
        simp only [settleAll, if_neg hc, k3 s' S, m3 _ S', upd_append]
end
end Pv

set_option linter.unusedVariables false
set_option linter.unusedSimpArgs false
namespace Pv
open Go
section
variable {s s' s2 : St} {cx : Cx} {C : Orc} {t : T} {M : List (Nat × Nat)}
theorem back_loc {b m : Nat} {mv : Bool} {hs : List (List V × Bool × Option Pl)} {ios : List (Nat × List V)} {boxes : List Nat} {t0 : T} {rows : List (List V)} (h : evBack s b mv hs ios boxes m t0 rows = some (t, s2, M)) :
    LocAt (fun s => evBack s b mv hs ios boxes m t0 rows) s t s2 M := by
  simp only [evBack] at h
  split at h
  · simp at h
  rename_i c1
  split at h
  case h_2 => simp at h
  rename_i s1 h1
  split at h
  case h_2 => simp at h
  rename_i s3 h3
  obtain ⟨U, k1, k2, k3⟩ := putRows_loc _ _ h1
  obtain ⟨Y, m1, m2, m3⟩ := putIo_loc _ _ h3
  have hUV : s3 = s.upd (U ++ Y) := by rw [upd_append, ← k1, m1]
  have go1 : ∀ s', Sub s s' → putRows s' boxes (rows.map fun r => (mapLRow (Lab.dn m) r).map (V.ren (backBox boxes b))) = some (s'.upd U) := k3
  have go2 : ∀ s', Sub s s' → putIo (s'.upd U) ios ((rows.drop boxes.length).map fun r => (mapLRow (Lab.dn m) r).map (V.ren (backBox boxes b))) = some (s'.upd (U ++ Y)) := by
    intro s' S
    have := m3 (s'.upd U) (by rw [k1]; exact Sub.upd U S)
    rw [upd_append]; exact this
  have key1 : ∀ x ∈ U ++ Y, ∃ y ∈ boxes.map (fun r => (r, 0)) ++ ios.map (fun x => (x.1, 0)), y.1 = x.1 := by
    intro x hx
    rcases List.mem_append.1 hx with hx | hx
    · exact ⟨(x.1, 0), List.mem_append.2 (.inl (List.mem_map.2 ⟨x.1, k2 x hx, rfl⟩)), rfl⟩
    · obtain ⟨y, hy, e⟩ := m2 x hx
      exact ⟨(y.1, 0), List.mem_append.2 (.inr (List.mem_map.2 ⟨y, hy, rfl⟩)), e⟩
  have mid : ∀ s4 new, (match rows.drop (boxes.length + ios.length) with
        | [] => some (s3, [])
        | [row] => (match s3.get b with
          | some _ => none
          | none => some (s3.set b (.agg ((mapLRow (Lab.dn m) row).map (V.ren (backBox boxes b))), 0), [(b, 0)]))
        | _ => none) = some (s4, new) → ∃ W : Upd, s4 = s3.upd W ∧ KeyIn W new ∧ ∀ s', Sub s s' → (∀ x ∈ W, s.get x.1 = none → s'.get x.1 = none) → (match rows.drop (boxes.length + ios.length) with
        | [] => some (s'.upd (U ++ Y), [])
        | [row] => (match (s'.upd (U ++ Y)).get b with
          | some _ => none
          | none => some ((s'.upd (U ++ Y)).set b (.agg ((mapLRow (Lab.dn m) row).map (V.ren (backBox boxes b))), 0), [(b, 0)]))
        | _ => none) = some ((s'.upd (U ++ Y)).upd W, new) := by
    intro s4 new hm
    split at hm
    · rename_i hd
      simp only [Option.some.injEq, Prod.mk.injEq] at hm
      obtain ⟨rfl, rfl⟩ := hm
      exact ⟨[], rfl, by simp [KeyIn], fun s' S _ => rfl⟩
    · rename_i row hd
      split at hm
      · simp at hm
      rename_i hb
      simp only [Option.some.injEq, Prod.mk.injEq] at hm
      obtain ⟨rfl, rfl⟩ := hm
      refine ⟨[(b, (.agg ((mapLRow (Lab.dn m) row).map (V.ren (backBox boxes b))), 0))], rfl, ?_, fun s' S hn => ?_⟩
      · intro x hx
        rw [List.mem_singleton.1 hx]
        exact ⟨_, List.mem_singleton_self _, rfl⟩
      · rw [hUV] at hb
        obtain ⟨n1, n2⟩ := get_upd_none _ _ _ hb
        have : (s'.upd (U ++ Y)).get b = none := by
          rw [get_upd_ne _ _ _ n2]
          exact hn _ (List.mem_singleton_self _) n1
        simp only [this]
        rfl
    · simp at hm
  split at h
  case h_2 => simp at h
  rename_i s4 new hm
  obtain ⟨W, w1, w2, w3⟩ := mid s4 new hm
  have hW : s4 = s.upd ((U ++ Y) ++ W) := by rw [upd_append, ← hUV, w1]
  have key2 : KeyIn ((U ++ Y) ++ W) (boxes.map (fun r => (r, 0)) ++ ios.map (fun x => (x.1, 0)) ++ new) := by
    intro x hx
    rcases List.mem_append.1 hx with hx | hx
    · obtain ⟨y, hy, e⟩ := key1 x hx
      exact ⟨y, List.mem_append.2 (.inl hy), e⟩
    · obtain ⟨y, hy, e⟩ := w2 x hx
      exact ⟨y, List.mem_append.2 (.inr hy), e⟩
  split at h
  · rename_i ht
    simp only [Option.some.injEq, Prod.mk.injEq] at h
    obtain ⟨rfl, rfl, rfl⟩ := h
    refine ⟨_, hW, key2, fun s' S hn => ?_⟩
    have g3 := w3 s' S (fun x hx => hn x (List.mem_append.2 (.inr hx)))
    simp only [evBack, if_neg c1]
    rw [go1 s' S]
    simp only [go2 s' S]
    split
    · rename_i sa na heq
      have e := Eq.trans heq.symm g3
      simp only [Option.some.injEq, Prod.mk.injEq] at e
      obtain ⟨rfl, rfl⟩ := e
      rw [if_pos ht, upd_append s' (U ++ Y) W]
    · rename_i heq
      have e := Eq.trans heq.symm g3
      simp at e
  · rename_i ht
    split at h
    · simp at h
    rename_i hnd
    split at h
    case h_2 => simp at h
    rename_i s5 lents hs5
    simp only [Option.some.injEq, Prod.mk.injEq] at h
    obtain ⟨rfl, rfl, rfl⟩ := h
    obtain ⟨X, x1, x2, x3⟩ := settleAll_loc _ _ hs5
    refine ⟨((U ++ Y) ++ W) ++ X, by rw [upd_append, ← hW, x1], ?_, fun s' S hn => ?_⟩
    · intro x hx
      rcases List.mem_append.1 hx with hx | hx
      · obtain ⟨y, hy, e⟩ := key2 x hx
        exact ⟨y, List.mem_append.2 (.inl hy), e⟩
      · obtain ⟨y, hy, e⟩ := x2 x hx
        exact ⟨y, List.mem_append.2 (.inr hy), e⟩
    have g3 := w3 s' S (fun x hx => hn x (List.mem_append.2 (.inl (List.mem_append.2 (.inr hx)))))
    have S' : Sub s4 (s'.upd ((U ++ Y) ++ W)) := by rw [hW]; exact Sub.upd _ S
    simp only [evBack, if_neg c1]
    rw [go1 s' S]
    simp only [go2 s' S]
    split
    · rename_i sa na heq
      have e := Eq.trans heq.symm g3
      simp only [Option.some.injEq, Prod.mk.injEq] at e
      obtain ⟨rfl, rfl⟩ := e
      rw [if_neg ht, if_neg hnd]
      rw [upd_append] at S'
      have := x3 _ S'
      rw [upd_append _ (U ++ Y ++ W) X, upd_append _ (U ++ Y) W]
      simp only [this]
    · rename_i heq
      have e := Eq.trans heq.symm g3
      simp at e
theorem loc_call {io : List Nat} {b : Nat} {mv : Bool} {xs : List O} (h : evIns C cx s (.call io b mv) xs = some (t, s2, M)) : LocAt (fun s => evIns C cx s (.call io b mv) xs) s t s2 M := by
  rcases xs with _ | ⟨f, as⟩ <;> simp only [evIns] at h <;> try (simp at h; done)
  show LocAt (fun s => evCall C cx s io b mv f as) s t s2 M
  simp only [evCall] at h
  split at h
  case h_2 => simp at h
  rename_i g caps ho
  split at h
  case h_2 => simp at h
  rename_i hs ios hh hi
  split at h
  case h_2 => simp at h
  rename_i args hv
  split at h
  · simp at h
  rename_i c1
  split at h
  case h_2 => simp at h
  rename_i rows hr
  split at h
  · simp at h
  rename_i c2
  split at h
  case h_2 => simp at h
  rename_i t0 rows' hC
  obtain ⟨U, k1, k2, k3⟩ := back_loc h
  refine ⟨U, k1, k2, fun s' S hn => ?_⟩
  have hi' := (S.takeIo _ hi).1
  have hh' := S.handAll as 0 (fun i o h1 h2 => (S.takeIo _ hi).2 i (by simpa using h2) o h1) hh
  have c2' := c2
  simp only [Bool.not_eq_true, Bool.not_eq_false', List.all_eq_true, List.contains_iff_mem, List.mem_append] at c2
  have hb := S.reach (reach s 100 ((args ++ caps.map T.one).flatMap ptrsT) []) (fun r hr' row hrow q hq => by
    obtain ⟨row', k4, k5⟩ := rowsOf_mem _ hr r hr'
    rw [hrow] at k5
    obtain rfl := Option.some.inj k5
    exact c2 q (.inr (List.mem_flatMap.2 ⟨row, k4, hq⟩))) 100 _ [] (fun r hr' => c2 r (.inl hr')) rfl
  simp only [evCall, S.opv ho, hh', hi', hv, hb, S.rowsOf _ hr, hC]
  rw [if_neg c1, if_neg c2']
  exact k3 s' S hn
theorem ins_loc {k : K} {xs : List O} (h : evIns C cx s k xs = some (t, s2, M)) : LocAt (fun s => evIns C cx s k xs) s t s2 M := by
  cases k with
  | move => exact loc_move h
  | assign => exact loc_assign h
  | pick => exact loc_pick h
  | bin => exact loc_bin h
  | binB => exact loc_binB h
  | eq => exact loc_eq h
  | un => exact loc_un h
  | conv => exact loc_conv h
  | alloc => exact loc_alloc h
  | box => exact loc_box h
  | fld => exact loc_fld h
  | ida => exact loc_ida h
  | idarr => exact loc_idarr h
  | load n => cases n; exact loc_load1 h; exact loc_loadN h
  | store => exact loc_store h
  | fieldV off n => cases n; exact loc_field1 h; exact loc_fieldN h
  | idxV => exact loc_idxV h
  | idxS => exact loc_idxS h
  | build => exact loc_build h
  | bsl => exact loc_bsl h
  | mks => exact loc_mks h
  | slc => exact loc_slc h
  | app => exact loc_app h
  | len => exact loc_len h
  | lenS => exact loc_lenS h
  | lenM => exact loc_lenM h
  | lenC => exact loc_lenC h
  | mn => exact loc_mn h
  | mx => exact loc_mx h
  | call => exact loc_call h
  | ext => exact loc_ext h
  | mkf => exact loc_mkf h
  | nilchk => exact loc_nilchk h
  | mkm => exact loc_mkm h
  | mset => exact loc_mset h
  | mget => exact loc_mget h
  | _ => simp [evIns] at h
end
end Pv

set_option linter.unusedVariables false
set_option linter.unusedSimpArgs false
namespace Pv
open Go
section
variable {P : Program} {E : Env} {w w2 : World} {β : Nat → Option Nat} {s s' s2 o : St} {tm : Array Value} {g : Nat → List Nat} {cx : Cx} {C : Orc} {t : T}
theorem get_app (a b : St) (i : Nat) : St.get (a ++ b) i = (a.get i).or (b.get i) := by
  induction a with
  | nil => simp [St.get]
  | cons x a ih =>
    obtain ⟨j, x⟩ := x
    simp only [List.cons_append, St.get, ih]
    split <;> simp
theorem get_restr (s : St) : ∀ (K : List Nat) (k : Nat), (s.restr K).get k = if k ∈ K then s.get k else none
  | [], k => by simp [St.restr, St.get]
  | a :: K, k => by
    have ih := get_restr s K k
    unfold St.restr at ih ⊢
    cases hg : s.get a with
    | none =>
      simp only [List.filterMap_cons, hg, Option.map_none]
      rw [ih]
      by_cases e : k = a
      · subst e
        simp only [List.mem_cons, true_or, if_true, hg]
        split <;> rfl
      · simp only [List.mem_cons, e, false_or]
    | some x =>
      simp only [List.filterMap_cons, hg, Option.map_some, St.get]
      by_cases e : a = k
      · subst e
        simp only [if_true, List.mem_cons, true_or, hg]
      · rw [if_neg e, ih]
        have : ¬ k = a := fun h => e h.symm
        simp only [List.mem_cons, this, false_or]
theorem get_lay (a b : St) (i : Nat) : St.get (St.lay a b) i = (a.get i).or (b.get i) := by
  induction a with
  | nil => simp [St.get, St.lay]
  | cons x a ih =>
    obtain ⟨j, x⟩ := x
    simp only [St.lay, List.foldr_cons] at ih ⊢
    rw [get_set, ih]
    simp only [St.get]
    split <;> simp
theorem get_mix (s o : St) (W : List Nat) (k : Nat) : (s.mix W o).get k = if k ∈ W then o.get k else s.get k := by
  unfold St.mix
  rw [get_lay]
  have h1 := get_filter o (fun x => W.contains x) k
  have h2 := get_filter s (fun x => !W.contains x) k
  rw [h1, h2]
  by_cases h : k ∈ W
  · simp [h]
  · simp [h]
def isPart (is : List Ins) (k : Nat) : Bool := decide (30000 ≤ k) && is.any fun i => i.dst == some ((k - 30000) / 100)
theorem get_clear (s : St) (is : List Ins) (k : Nat) : (s.clear is).get k = if isPart is k then none else s.get k := by
  unfold St.clear isPart
  have := get_filter s (fun x => !(decide (30000 ≤ x) && is.any fun i => i.dst == some ((x - 30000) / 100))) k
  rw [this]
  by_cases h : (decide (30000 ≤ k) && is.any fun i => i.dst == some ((k - 30000) / 100)) = true
  · simp [h]
  · simp only [Bool.not_eq_true] at h
    simp [h]
theorem get_putTup_congr (d : Nat) : ∀ (ts : List T) (i : Nat) (s s' : St) (k : Nat), s.get k = s'.get k → (putTup s d i ts).get k = (putTup s' d i ts).get k
  | [], i, s, s', k, h => by simpa [putTup] using h
  | t :: ts, i, s, s', k, h => by
    simp only [putTup]
    refine get_putTup_congr d ts (i + 1) _ _ k ?_
    rw [get_set, get_set, h]
theorem get_putTup_ne (d : Nat) : ∀ (ts : List T) (i : Nat) (s : St) (k : Nat), (∀ j, i ≤ j → j < i + ts.length → tupAt d j ≠ k) → (putTup s d i ts).get k = s.get k
  | [], i, s, k, h => by simp [putTup]
  | t :: ts, i, s, k, h => by
    simp only [putTup]
    rw [get_putTup_ne d ts (i + 1) _ k (fun j h1 h2 => h j (by omega) (by simp only [List.length_cons]; omega)), get_set_ne _ _ (h i (Nat.le_refl _) (by simp only [List.length_cons]; omega))]
theorem new_congr (s s' : St) (d : Nat) (t : T) (h : s.get d = s'.get d) : s.new d t = s'.new d t := by
  unfold St.new; rw [h]
theorem putDst_congr {dst : Option Nat} {k : Nat} (hk : s.get k = s'.get k) (hd : ∀ d, dst = some d → s.get d = s'.get d) : (putDst s dst t).get k = (putDst s' dst t).get k := by
  cases dst with
  | none => exact hk
  | some d =>
    have h1 : ∀ x, ((s.drop d).set d x).get k = ((s'.drop d).set d x).get k := by
      intro x
      rw [get_set, get_set, get_drop, get_drop, hk]
    have hd := hd d rfl
    cases t with
    | tup ts =>
      simp only [putDst]
      rw [new_congr s s' d _ hd]
      exact get_putTup_congr d ts 0 _ _ k (h1 _)
    | _ =>
      simp only [putDst]
      rw [new_congr s s' d _ hd]
      exact h1 _
theorem putDst_ne {dst : Option Nat} {k : Nat} (h : ∀ y ∈ dstRoots s dst t, y.1 ≠ k) (hp : ∀ d, dst = some d → 30000 ≤ k → (k - 30000) / 100 = d → s'.get k = none) : (putDst s' dst t).get k = s'.get k := by
  cases dst with
  | none => rfl
  | some d =>
    have hne : d ≠ k := by
      have := h (d, 0) (by simp only [dstRoots]; exact List.mem_cons_self)
      exact this
    have h1 : ∀ x, ((s'.drop d).set d x).get k = s'.get k := by
      intro x
      rw [get_set_ne _ _ hne, get_drop]
      split
      · rename_i e; exact (hp d rfl e.1 e.2).symm
      · rfl
    cases t with
    | tup ts =>
      simp only [putDst]
      rw [get_putTup_ne, h1]
      intro j _ hj
      have := h (tupAt d j, 0) (by
        simp only [dstRoots]
        refine List.mem_cons_of_mem _ (List.mem_append.2 (.inr (List.mem_map.2 ⟨j, List.mem_range.2 (by omega), rfl⟩))))
      exact this
    | _ => simp only [putDst]; exact h1 _
theorem op_loc {i : Ins} {f : Fp} {W : List Nat} (h : evOp C cx s i = some (o, f)) (hW : ∀ y ∈ f.wr, y.1 ∈ W) (S : Sub s s') (hs : ∀ k ∈ W, s'.get k = s.get k)
    (hp : ∀ d k, i.dst = some d → 30000 ≤ k → (k - 30000) / 100 = d → k ∉ W → s'.get k = none) : ∃ o' f', evOp C cx s' i = some (o', f') ∧ ∀ k, o'.get k = if k ∈ W then o.get k else s'.get k := by
  have fin : ∀ (U : Upd) (t : T), (∀ x ∈ U, x.1 ∈ W) → (∀ y ∈ dstRoots (s.upd U) i.dst t, y.1 ∈ W) → ∀ k, (putDst (s'.upd U) i.dst t).get k = if k ∈ W then (putDst (s.upd U) i.dst t).get k else s'.get k := by
    intro U t hU hD k
    have agree : ∀ k ∈ W, (s'.upd U).get k = (s.upd U).get k := by
      intro k hk
      by_cases hx : ∃ x ∈ U, x.1 = k
      · exact get_upd_eq U _ _ k hx
      · have hx' : ∀ x ∈ U, x.1 ≠ k := fun x h e => hx ⟨x, h, e⟩
        rw [get_upd_ne U _ k hx', get_upd_ne U _ k hx', hs k hk]
    split
    · rename_i hk
      refine putDst_congr (agree k hk) (fun d hd => agree d ?_)
      have := hD (d, 0) (by rw [hd]; simp only [dstRoots]; exact List.mem_cons_self)
      exact this
    · rename_i hk
      have hU' : ∀ x ∈ U, x.1 ≠ k := fun x hx e => hk (e ▸ hU x hx)
      rw [putDst_ne (s := s.upd U) (fun y hy e => hk (by rw [← e]; exact hD y hy)) (fun d hd h1 h2 => by rw [get_upd_ne U _ k hU']; exact hp d k hd h1 h2 hk), get_upd_ne U _ k hU']
  have run : ∀ gs, evDo C cx s i gs = some (o, f) → ∃ o' f', evDo C cx s' i gs = some (o', f') ∧ ∀ k, o'.get k = if k ∈ W then o.get k else s'.get k := by
    intro gs he
    simp only [evDo] at he
    split at he
    case h_2 => simp at he
    rename_i t s1 M hins
    simp only [Option.some.injEq, Prod.mk.injEq] at he
    obtain ⟨rfl, rfl⟩ := he
    obtain ⟨U, k1, k2, k3⟩ := ins_loc hins
    subst k1
    have hU : ∀ x ∈ U, x.1 ∈ W := by
      intro x hx
      obtain ⟨y, hy, e⟩ := k2 x hx
      rw [← e]
      exact hW y (List.mem_append.2 (.inl hy))
    have := k3 s' S (fun x hx hn => by rw [hs x.1 (hU x hx)]; exact hn)
    refine ⟨_, _, by simp only [evDo, this]; rfl, ?_⟩
    exact fin U t hU (fun y hy => hW y (List.mem_append.2 (.inr hy)))
  simp only [evOp] at h
  split at h
  · simp at h
  rename_i hpin
  split at h
  · rename_i hg
    obtain ⟨o', f', k1, k2⟩ := run _ h
    exact ⟨o', f', by simp only [evOp, if_neg hpin, hg, k1], k2⟩
  · rename_i gt gw hg
    split at h
    · rename_i b v hget
      split at h
      · rename_i hbw
        obtain ⟨o', f', k1, k2⟩ := run _ h
        exact ⟨o', f', by simp only [evOp, if_neg hpin, hg, S _ _ hget, if_pos hbw, k1], k2⟩
      · rename_i hbw
        simp only [Option.some.injEq, Prod.mk.injEq] at h
        obtain ⟨rfl, rfl⟩ := h
        exact ⟨_, _, by simp only [evOp, if_neg hpin, hg, S _ _ hget, if_neg hbw]; rfl, fin [] (.tup []) (by simp) hW⟩
    · rename_i v hget
      simp only [Option.some.injEq, Prod.mk.injEq] at h
      obtain ⟨rfl, rfl⟩ := h
      exact ⟨_, _, by simp only [evOp, if_neg hpin, hg, S _ _ hget]; rfl, fin [] (.tup []) (by simp) hW⟩
    · simp at h
end
end Pv

set_option linter.unusedVariables false
set_option linter.unusedSimpArgs false
namespace Pv
open Go
section
variable {P : Program} {E : Env} {w w2 : World} {β : Nat → Option Nat} {s s' s2 o : St} {tm : Array Value} {g : Nat → List Nat} {cx : Cx} {C : Orc} {t : T}
theorem alOf_hd {v : V} {p q : Pl} (h : alOf v p = some (.al q)) : v.hdOf ≠ 0 ∧ q = p := by
  unfold alOf at h
  split at h
  · simp at h
  · rename_i hd
    split at h
    · simp at h
    · rename_i hn
      simp only [Option.some.injEq, T.al.injEq] at h
      refine ⟨?_, h.symm⟩
      cases v with
      | sl l sz rows => cases l <;> simp_all [V.noOwn, V.hdOf]
      | mp ka va ks vs => simp [V.hdOf]
      | dead => exact absurd rfl hd
      | _ => simp [V.noOwn] at hn
theorem hd_alOf {v : V} {p : Pl} (h : v.hdOf ≠ 0) : alOf v p = some (.al p) := by
  cases v with
  | sl l sz rows => cases l <;> simp_all [V.noOwn, V.hdOf, alOf]
  | mp ka va ks vs => simp [alOf, V.noOwn]
  | _ => simp [V.hdOf] at h
theorem simO_some {x y : Option Slot} (h : simO x y = true) : ∃ r q v, x = some (.agg r, v) ∧ y = some (.agg q, v) ∧ r.map V.hdOf = q.map V.hdOf := by
  unfold simO at h
  split at h
  · rename_i r v q u
    simp only [Bool.and_eq_true, beq_iff_eq] at h
    exact ⟨r, q, v, rfl, by rw [h.1], h.2⟩
  · simp at h
theorem simO_mk {r q : List V} {v : Nat} (h : r.map V.hdOf = q.map V.hdOf) : simO (some (.agg r, v)) (some (.agg q, v)) = true := by
  simp [simO, h]
def Sim (x y : Option Slot) : Prop := x = y ∨ simO x y = true
theorem Sim.refl (x : Option Slot) : Sim x x := .inl rfl
theorem Sim.symm {x y : Option Slot} (h : Sim x y) : Sim y x := by
  rcases h with rfl | h
  · exact .inl rfl
  · obtain ⟨r, q, v, rfl, rfl, e⟩ := simO_some h
    exact .inr (simO_mk e.symm)
theorem Sim.trans {x y z : Option Slot} (h : Sim x y) (k : Sim y z) : Sim x z := by
  rcases h with rfl | h
  · exact k
  · rcases k with rfl | k
    · exact .inr h
    · obtain ⟨r, q, v, rfl, rfl, e⟩ := simO_some h
      obtain ⟨r', q', v', e1, rfl, e'⟩ := simO_some k
      simp only [Option.some.injEq, Prod.mk.injEq, T.agg.injEq] at e1
      obtain ⟨rfl, rfl⟩ := e1
      exact .inr (simO_mk (e.trans e'))
theorem load_sim {i : Ins} {f : Fp} {W : List Nat} (hsoft : softLoad i o = true) (h : evOp C cx s i = some (o, f)) (hW : ∀ y ∈ f.wr, y.1 ∈ W) (S : ∀ k x, s.get k = some x → Sim (s.get k) (s'.get k)) (hs : ∀ k ∈ W, s'.get k = s.get k)
    (hp : ∀ d k, i.dst = some d → 30000 ≤ k → (k - 30000) / 100 = d → k ∉ W → s'.get k = none) : ∃ o' f', evOp C cx s' i = some (o', f') ∧ ∀ k, o'.get k = if k ∈ W then o.get k else s'.get k := by
  simp only [softLoad, Bool.and_eq_true, Option.isNone_iff_eq_none] at hsoft
  obtain ⟨⟨hk, hg⟩, hd⟩ := hsoft
  split at hk
  case h_2 => simp at hk
  rename_i hkk
  split at hd
  case h_2 => simp at hd
  rename_i d hdst
  split at hd
  case h_2 => simp at hd
  rename_i p pv hop
  simp only [evOp] at h
  split at h
  · simp at h
  rename_i hpin
  simp only [hg, evDo, hkk] at h
  split at h
  case h_2 => simp at h
  rename_i t s1 M hins
  simp only [Option.some.injEq, Prod.mk.injEq] at h
  obtain ⟨rfl, rfl⟩ := h
  have key : t = .al p ∧ s1 = s ∧ M = [] ∧ evIns C cx s' (.load none) i.xs = some (.al p, s', []) := by
    have ht : ∀ t0, t = t0 → (∀ ts, t0 ≠ .tup ts) → t0 = .al p := by
      rintro t0 rfl hts
      rw [hdst] at hop
      cases t with
      | tup ts => exact absurd rfl (hts ts)
      | _ =>
        simp only [putDst, get_set_same, St.new, Option.some.injEq, Prod.mk.injEq] at hop
        first | exact hop.1 | (have := hop.1; simp at this)
    generalize i.xs = xs at hins ⊢
    rcases xs with _ | ⟨a, _ | _⟩ <;> simp only [evIns] at hins <;> try (simp at hins; done)
    split at hins
    · split at hins
      case h_2 => simp at hins
      simp only [Option.some.injEq, Prod.mk.injEq] at hins
      have := ht _ hins.1.symm (by simp)
      simp at this
    · rename_i hn
      split at hins
      case h_2 => simp at hins
      rename_i q hq
      split at hins
      case h_2 => simp at hins
      rename_i v hv
      split at hins
      case h_2 => simp at hins
      rename_i t0 ht0
      simp only [Option.some.injEq, Prod.mk.injEq] at hins
      obtain ⟨rfl, rfl, rfl⟩ := hins
      have htal : t0 = .al p := by
        refine ht t0 rfl (fun ts e => ?_)
        subst e
        unfold alOf at ht0
        split at ht0
        · simp at ht0
        · split at ht0 <;> simp at ht0
      subst htal
      obtain ⟨hd1, rfl⟩ := alOf_hd ht0
      refine ⟨rfl, rfl, rfl, ?_⟩
      have hpath : p.path = [] := by simpa using hd
      obtain ⟨row, off, h1, h2⟩ := cell_place hv
      obtain ⟨tr, row2, g1, g2, g3⟩ := place_some h1
      rw [hpath] at g3
      simp only [getRow, Option.some.injEq, Prod.mk.injEq] at g3
      obtain ⟨rfl, rfl⟩ := g3
      have hcell : ∃ v', s'.cell p = some v' ∧ v'.hdOf = v.hdOf := by
        rcases S _ _ g1 with e | e
        · refine ⟨v, ?_, rfl⟩
          rw [cell_congr e.symm]; exact hv
        · obtain ⟨r, q, u, e1, e2, e3⟩ := simO_some e
          rw [g1] at e1
          simp only [Option.some.injEq, Prod.mk.injEq] at e1
          obtain ⟨rfl, rfl⟩ := e1
          simp only [T.row?, Option.some.injEq] at g2
          subst g2
          have hpl : s'.place p = some (q, p.off) := place_mk e2 rfl (by rw [hpath]; rfl)
          have := congrArg (fun l => l[p.off]?) e3
          simp only [List.getElem?_map, h2, Option.map_some] at this
          cases hq' : q[p.off]? with
          | none => rw [hq'] at this; simp at this
          | some v' =>
            rw [hq'] at this
            simp only [Option.map_some, Option.some.injEq] at this
            exact ⟨v', by simp only [St.cell, hpl, hq'], this.symm⟩
      obtain ⟨v', hc', hh⟩ := hcell
      have hver : s'.ver p.r = s.ver p.r := by
        rcases S _ _ g1 with e | e
        · simp only [St.ver, e]
        · obtain ⟨r, q, u, e1, e2, e3⟩ := simO_some e
          simp only [St.ver, e1, e2]
      have ho : s'.opv a = s.opv a := by
        cases a with
        | c y => rfl
        | t j =>
          cases hj : s.get j with
          | none => simp [addrPl, St.opv, hj] at hq
          | some x =>
            rcases S _ _ hj with e | e
            · simp only [St.opv, e]
            · obtain ⟨r, q, u, e1, e2, e3⟩ := simO_some e
              simp [addrPl, St.opv, e1] at hq
      have hq' : addrPl s' a = some p := by
        unfold addrPl at hq ⊢
        rw [ho]
        split at hq
        · simp only [Option.some.injEq] at hq
          subst hq
          rename_i heq
          simp only [heq, Option.some.injEq]
          rw [hver]
        · exact hq
        · simp at hq
      have := hd_alOf (p := p) (by rw [hh]; exact hd1 : v'.hdOf ≠ 0)
      simp only [evIns]
      rw [ho]
      split
      · rename_i heq; exact absurd heq (hn _ _)
      · simp only [hq', hc', this]
  obtain ⟨rfl, rfl, rfl, hins'⟩ := key
  refine ⟨putDst s' i.dst (.al p), ⟨[] ++ (rel s' i.k i.xs).map fun r => (r, depthOf s' i.k i.xs), [] ++ dstRoots s' i.dst (.al p)⟩, ?_, ?_⟩
  · simp only [evOp, if_neg hpin, hg, evDo, hkk, hins']
  · intro k
    split
    · rename_i hk
      refine putDst_congr (hs k hk) (fun d' hd' => hs d' ?_)
      exact hW (d', 0) (List.mem_append.2 (.inr (by rw [hd']; simp only [dstRoots]; exact List.mem_cons_self)))
    · rename_i hk
      exact putDst_ne (s := s1) (fun y hy e => hk (by rw [← e]; exact hW y (List.mem_append.2 (.inr hy)))) (fun d' hd' h1 h2 => hp d' k hd' h1 h2 hk)
end
end Pv
