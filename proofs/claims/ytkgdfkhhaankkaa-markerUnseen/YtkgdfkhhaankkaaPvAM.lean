import Derived.Laws.StructEq
import Derived.Test.YtkgdfkhhaankkaaPvAL
set_option linter.all false
set_option linter.unusedVariables false
set_option linter.unusedSimpArgs false
namespace Pv
open Go
section
variable {P : Program} {E E2 : Env} {w w2 : World} {β β2 : Nat → Option Nat} {s s2 : St} {tm : Array Value} {g g2 : Nat → List Nat} {cx : Cx} {C : Orc}
theorem app_y (hI : Inv E w β s tm g) {y : Operand} {Y : O} {vy : Sv} {s1 : St} {m1 : List (Nat × Nat)} (hy : OpdOk y Y) (hv : s.slice Y = some vy)
    (ht : (if vy.rows.all (fun r => r.all V.noOwn) then some (s, ([] : List (Nat × Nat))) else match vy.p with
        | some (p, 0, false) => if cx.moves false p then (match s.put p [.dead] false with | some u => some (s.upd u, [(p.r, p.path.length)]) | none => none) else none
        | _ => none) = some (s1, m1)) :
    ∃ E2 g2 f a cap cs f', Hand cx E w β s tm g s1 E2 g2 f ∧ ev tm y = .slice a vy.rows.length cap ∧ Lies E w β vy.sz vy.rows a cs f' ∧ ∃ f'', RepRows E2 w β vy.sz vy.rows cs f'' ∧ f''.Sublist f := by
  obtain ⟨⟨a, cap, cs, f', h1, h2, h3, h4⟩, hpl⟩ := slice_ok hI hy hv
  split at ht
  · rename_i hno
    simp only [Option.some.injEq, Prod.mk.injEq] at ht
    obtain ⟨rfl, rfl⟩ := ht
    have := noOwn_rows hno h3.rep
    subst this
    exact ⟨E, g, [], a, cap, cs, [], Hand.refl hI, h1, h3, [], h3.rep, List.Sublist.refl _⟩
  · split at ht
    case h_2 => simp at ht
    rename_i p hp
    split at ht
    case isFalse => simp at ht
    split at ht
    case h_2 => simp at ht
    rename_i u hu
    simp only [Option.some.injEq, Prod.mk.injEq] at ht
    obtain ⟨rfl, rfl⟩ := ht
    obtain ⟨R, a0, cap0, fR, q1, q2, q3, q4, q5, q6, q7, q8⟩ := hpl p 0 false hp
    obtain ⟨E2, g2, f, k, k2⟩ := take_place (cx := cx) hI q1 q2 hu
    obtain ⟨f1, m1, m2⟩ := k2.part (lo := 0) (hi := vy.rows.length) (Nat.zero_le _) (by omega)
    rw [List.drop_zero, Nat.sub_zero] at m1
    rw [List.drop_zero] at q6
    rw [← q6] at m1
    rw [Nat.zero_add] at q8
    rw [← q8, h1] at m1
    simp only [Rep] at m1
    obtain ⟨a', len', cap', cs', f'', e1, e2, e3, e4, e5, _⟩ := m1
    simp only [Value.slice.injEq] at e1
    obtain ⟨rfl, _, rfl⟩ := e1
    have hcs : cs' = cs := by
      cases a with
      | none =>
        obtain ⟨n1, n2⟩ := h3.nil rfl
        rw [n1] at e4
        simp only [RepRows] at e4
        rw [e4.1, n2]
      | some ad =>
        simp only [SlOk] at e5
        have hl : cs'.length = cs.length := by rw [e4.len, h3.rep.len]
        apply List.ext_getElem?
        intro j
        by_cases hj : j < cs.length
        · have r1 := e5.2.1 j cs'[j] (List.getElem?_eq_getElem (by omega))
          have r2 := (h3.at' ad rfl).2.1 j cs[j] (List.getElem?_eq_getElem hj)
          rw [r1] at r2
          rw [List.getElem?_eq_getElem (by omega), List.getElem?_eq_getElem hj]; exact r2
        · rw [List.getElem?_eq_none (by omega), List.getElem?_eq_none (by omega)]
    subst hcs
    refine ⟨E2, g2, f, a, cap, cs', f', k.hand (List.Sublist.refl _), h1, h3, f'', e4, ?_⟩
    refine List.Sublist.trans ?_ m2
    cases a with
    | none =>
      simp only [SlOk] at e5
      have : vy.rows = [] := (h3.nil rfl).1
      rw [this] at e4
      simp only [RepRows] at e4
      rw [e4.2]; exact List.nil_sublist _
    | some ad =>
      simp only [SlOk] at e5
      rcases e5.2.2.2 with ⟨_, e, _⟩ | ⟨h, _⟩
      · rw [e]; exact List.sublist_cons_self ..
      · exact absurd rfl h
theorem Lies.heap {sz : Nat} {rows : List (List V)} {a : Option Addr} {cs : List Value} {f : List Nat} (h : Lies E w β sz rows a cs f) (hw : w2.heap = w.heap) : Lies E w2 β sz rows a cs f :=
  ⟨h.rep.frame (Stp.heap hw) (fun _ _ h => h) _ _ _ _ (fun b _ => by rw [hw]), fun ad e => by
    obtain ⟨h1, h2, h3⟩ := h.at' ad e
    exact ⟨h1, h2.same (by rw [hw]), by rw [hw]; exact h3⟩, h.nil⟩
theorem cst_slice {x : Operand} {c : T} {v : Sv} (ho : OpdOk x (.c c)) (hv : s.slice (.c c) = some v) : ev tm x = .slice none 0 0 ∧ v.rows = [] ∧ v.p = none := by
  cases x <;> simp only [OpdOk] at ho
  · unfold CstOk at ho
    simp only [St.slice, St.opv] at hv
    split at ho
    · simp at hv
    · simp at hv
    · rename_i x _ _
      cases x <;> simp only [CellOk] at ho <;> simp at hv
      obtain ⟨rfl, rfl, rfl⟩ := ho
      subst hv
      exact ⟨rfl, rfl, rfl⟩
    · simp at hv
    · exact ho.elim
  · subst ho
    simp [St.slice, St.opv] at hv
def St.dropX (s : St) (p : Option (Pl × Nat × Bool)) (X : O) : Option Upd := match p with
  | some (p, _, _) => s.put p [.dead] false
  | none => match X with
    | .c _ => some []
    | .t _ => none
theorem app_x (hI : Inv E w β s tm g) {x : Operand} {X : O} {vx : Sv} {u' : Upd} (hx : OpdOk x X) (hv : s.slice X = some vx) (ht : s.dropX vx.p X = some u') :
    ∃ E2 g2 f a cap cs f', Hand cx E w β s tm g (s.upd u') E2 g2 f ∧ ev tm x = .slice a vx.rows.length cap ∧ vx.rows.length ≤ cap ∧ Lies E w β vx.sz vx.rows a cs f' ∧ ∃ f'', RepRows E2 w β vx.sz vx.rows cs f'' ∧
      ((a = none ∧ cap = 0 ∧ f'' = []) ∨ ∃ ad, a = some ad ∧ ad.spot = none ∧ Clean w ad.block (ad.off + cap * vx.sz) ∧ (ad.block :: f'').Sublist f) := by
  obtain ⟨⟨a, cap, cs, f', h1, h2, h3, h4⟩, hpl⟩ := slice_ok hI hx hv
  unfold St.dropX at ht
  split at ht
  · rename_i p lo capped hp
    obtain ⟨R, a0, cap0, fR, q1, q2, q3, q4, q5, q6, q7, q8⟩ := hpl p lo capped hp
    obtain ⟨E2, g2, f, k, k2⟩ := take_place (cx := cx) hI q1 q2 ht
    obtain ⟨f1, m1, m2⟩ := k2.part (lo := lo) (hi := lo + vx.rows.length) (by omega) q7
    rw [Nat.add_sub_cancel_left, ← q6] at m1
    simp only [Rep, cutVal, Bool.false_eq_true, if_false] at m1
    obtain ⟨a', len', cap', cs', f'', e1, e2, e3, e4, e5, _⟩ := m1
    simp only [Value.slice.injEq] at e1
    obtain ⟨ea, _, ecap⟩ := e1
    have hR : R.length ≤ cap0 := by
      obtain ⟨_, _, _, _, e, hh, _⟩ := q3.lies
      simp only [Value.slice.injEq] at e
      omega
    rw [q8] at h1
    simp only [cutVal, Value.slice.injEq] at h1
    obtain ⟨ha, hn, hc⟩ := h1
    have hcle : cap ≤ cap' := by rw [← hc, ← ecap]; cases capped <;> simp <;> omega
    by_cases hnil : a' = none
    · subst hnil
      simp only [SlOk] at e5
      have hr : vx.rows = [] := List.length_eq_zero_iff.1 (by omega)
      have hcap0 : cap = 0 := by omega
      have han : a = none := by
        rw [← ha]
        have hcc : cap0 = lo := by rw [hr] at q7; simp at q7; omega
        rw [if_pos hcc] at ea
        generalize (if capped = true then lo + vx.rows.length else cap0) = m
        split
        · exact ea
        · rw [ea]; rfl
      rw [hr] at e4
      simp only [RepRows] at e4
      have hcsn : cs = [] := (h3.nil han).2
      refine ⟨E2, g2, f, a, cap, cs, f', k.hand (List.Sublist.refl _), ?_, h2, h3, [], ?_, .inl ⟨han, hcap0, rfl⟩⟩
      · rw [q8]; simp only [cutVal, Value.slice.injEq]; exact ⟨ha, hn, hc⟩
      · rw [hr, hcsn]; simp [RepRows]
    · obtain ⟨ad', rfl⟩ : ∃ ad', a' = some ad' := by cases a' with | none => exact absurd rfl hnil | some x => exact ⟨x, rfl⟩
      simp only [SlOk] at e5
      obtain ⟨n1, n2, n3, n4⟩ := e5
      rcases n4 with ⟨_, rfl, n5⟩ | ⟨hh, _⟩
      case inr => exact absurd rfl hh
      obtain ⟨ad, had, hsp, hblk, hoff⟩ : ∃ ad, a = some ad ∧ ad.spot = none ∧ ad.block = ad'.block ∧ (ad = ad' ∨ (cap = 0 ∧ ad.off ≤ ad'.off)) := by
        by_cases hcc : cap0 = lo
        · rw [if_pos hcc] at ea
          have hm : (if capped = true then lo + vx.rows.length else cap0) = lo := by
            have : vx.rows.length = 0 := by omega
            cases capped with
            | true => rw [if_pos rfl, this]; rfl
            | false => rw [if_neg (by simp)]; exact hcc
          rw [if_pos hm] at ha
          exact ⟨ad', by rw [← ha, ea], n1, rfl, .inl rfl⟩
        · rw [if_neg hcc] at ea
          cases a0 with
          | none => simp at ea
          | some a0 =>
            have hs0 : a0.spot = none := by
              obtain ⟨a1, _, _, _, e, _, hl, _⟩ := q3.lies
              simp only [Value.slice.injEq] at e
              exact (hl.at' a0 e.1.symm).1
            simp only [Option.map_some, Option.some.injEq] at ea
            rw [add_spot hs0] at ea
            by_cases hm : (if capped = true then lo + vx.rows.length else cap0) = lo
            · rw [if_pos hm] at ha
              refine ⟨a0, ha.symm, hs0, by rw [← ea], .inr ⟨?_, by rw [← ea]; simp⟩⟩
              rw [← hc, hm]; omega
            · rw [if_neg hm] at ha
              refine ⟨ad', ?_, n1, rfl, .inl rfl⟩
              rw [← ha, ← ea]; simp [add_spot hs0]
      have hcs : cs' = cs := by
        have hl : cs'.length = cs.length := by rw [e4.len, h3.rep.len]
        apply List.ext_getElem?
        intro j
        by_cases hj : j < cs.length
        · rcases hoff with rfl | ⟨hz, _⟩
          · have r1 := n2 j cs'[j] (List.getElem?_eq_getElem (by omega))
            have r2 := (h3.at' ad had).2.1 j cs[j] (List.getElem?_eq_getElem hj)
            rw [r1] at r2
            rw [List.getElem?_eq_getElem (by omega), List.getElem?_eq_getElem hj]; exact r2
          · have := h3.rep.len
            have h0 : vx.rows.length = 0 := by omega
            rw [h0, Nat.zero_mul] at this
            omega
        · rw [List.getElem?_eq_none (by omega), List.getElem?_eq_none (by omega)]
      subst hcs
      refine ⟨E2, g2, f, a, cap, cs', f', k.hand (List.Sublist.refl _), ?_, h2, h3, f'', e4, .inr ⟨ad, had, hsp, ?_, by rw [hblk]; exact m2⟩⟩
      · rw [q8]; simp only [cutVal, Value.slice.injEq]; exact ⟨ha, hn, hc⟩
      · rw [hblk]
        refine n5.mono ?_
        rcases hoff with rfl | ⟨hz, ho⟩
        · have := Nat.mul_le_mul_right vx.sz hcle; omega
        · rw [hz]; omega
  · split at ht
    case h_2 => simp at ht
    rename_i y
    obtain rfl := Option.some.inj ht
    obtain ⟨k1, k2, _⟩ := cst_slice (s := s) (tm := tm) hx hv
    rw [k1, k2] at h1
    simp only [List.length_nil, Value.slice.injEq] at h1
    obtain ⟨rfl, _, rfl⟩ := h1
    obtain ⟨_, rfl⟩ := h3.nil rfl
    exact ⟨E, g, [], none, 0, [], f', Hand.refl hI, by rw [k1, k2]; rfl, by rw [k2]; simp, h3, [], by rw [k2]; simp [RepRows], .inl ⟨rfl, rfl, rfl⟩⟩
theorem zeroCells_size (z : Array Value) (n : Nat) : (Builtin.zeroCells z n).size = n * z.size := by simp [Builtin.zeroCells]
theorem rows_oneCells {sz : Nat} : ∀ {rows : List (List V)} {cs : List Value} {f : List Nat}, (rows.any fun r => r.any V.isDead) = false → RepRows E w β sz rows cs f → ∀ c ∈ cs, c.oneCell' = true
  | [], _, _, _, h => by simp only [RepRows] at h; simp [h.1]
  | r :: rows, cs, f, hn, h => by
    simp only [RepRows] at h
    obtain ⟨c, cs', f1, f2, rfl, rfl, _, _, h1, h2⟩ := h
    simp only [List.any_cons, Bool.or_eq_false_iff] at hn
    intro x hx
    rcases List.mem_append.1 hx with hx | hx
    · exact RepRow.oneCells hn.1 h1 x hx
    · exact rows_oneCells hn.2 h2 x hx
theorem Hand.out (hI : Inv E w β s tm g) {f f' : List Nat} (H : Hand cx E w β s tm g s2 E2 g2 f) {t : T} {cv : Value} (ht : ∀ ts, t ≠ .tup ts) (k : TOk E2 w β s2 tm t cv f') (hn : f'.Nodup) (hs : ∀ b ∈ f', b ∈ f) : Out cx E w β s tm g t s2 cv w :=
  ⟨E2, β, g2, [f'], H.inv, H.fr.lift (fun b hb => H.fr.res b (by simpa using hs b (by simpa using hb))), ROk.one ht k hn (fun b hb => H.own b (hs b hb)) (fun i b hb => H.dis i b (hs b hb)), fun hp => hp.step (fun r _ hb hs => ⟨H.box r hb hs, fun _ => rfl⟩)⟩
theorem a_app (hI : Inv E w β s tm g) {o : Oper} {c : Call} {t1 t2 e e2 : TypeId} {ei : TypeInfo} {z : Value} {x y : Operand} {X Y : O} {t : T} {M : List (Nat × Nat)} (hop : o.op = .call c) (hc : c.callee = .builtin .append) (ha : c.args = #[x, y]) (hat : c.argTypes = #[t1, t2])
    (h1 : P.underlying t1 = some (.slice e)) (h2 : P.underlying t2 = some (.slice e2)) (h3 : P.info? e = some ei) (hz : ei.zero = some z) (hzs : z.cells.size = ei.size) (hb0 : ei.bytes ≠ 0) (hx : OpdOk x X) (hy : OpdOk y Y)
    (hev : evIns C cx s (.app ei.size ei.bytes) [X, Y] = some (t, s2, M)) : Does P cx E w β s tm g o t s2 := by
  simp only [evIns] at hev
  split at hev
  case h_2 => simp at hev
  rename_i vy hvy
  split at hev
  · simp at hev
  rename_i hszy
  simp only [ne_eq, not_or, Decidable.not_not, Bool.not_eq_true] at hszy
  obtain ⟨hszy, hdy⟩ := hszy
  split at hev
  case h_2 => simp at hev
  rename_i s1 m1 hs1
  obtain ⟨E1, g1, f1, ay, capy, csy, fy0, H1, hvaly, hly, fy, hry, hfysub⟩ := app_y (cx := cx) hI hy hvy hs1
  split at hev
  case h_2 => simp at hev
  rename_i vx hvx
  split at hev
  · simp at hev
  rename_i hch
  simp only [ne_eq, not_or, Decidable.not_not, Nat.not_lt] at hch
  obtain ⟨hszx, hby⟩ := hch
  obtain ⟨u, hu, rfl, rfl⟩ : ∃ u, s1.dropX vx.p X = some u ∧ T.one (.sl .own ei.size (vx.rows ++ vy.rows)) = t ∧ s1.upd u = s2 := by
    split at hev
    · split at hev
      · rename_i u hu
        simp only [Option.some.injEq, Prod.mk.injEq] at hev
        exact ⟨u, by simp only [St.dropX, *], hev.1, hev.2.1⟩
      · simp at hev
    · simp only [Option.some.injEq, Prod.mk.injEq] at hev
      exact ⟨[], by simp only [St.dropX, *], hev.1, hev.2.1⟩
    · simp at hev
  obtain ⟨E2, g2, f2, ax, capx, csx, fx0, H2, hvalx, hcapx, hlx, fx, hrx, hax⟩ := app_x (cx := cx) H1.inv hx hvx hu
  obtain ⟨H, hdis⟩ := H1.then H2
  have hst12 : Stp E1 w E2 w := H2.fr.stp H1.inv
  have hry2 := hry.frame hst12 (fun _ _ h => h) _ _ _ _ (fun _ _ => rfl)
  have hcall : ∀ cv w', (Builtin.append_ #[t1, t2] o.type #[.slice ax vx.rows.length capx, .slice ay vy.rows.length capy]).run P w = .ok cv w' → (execOp (ev tm) o).run P w = .ok (.value cv) w' := by
    intro cv w' hr
    have : execOp (ev tm) o = (do pure (.value (← Builtin.append_ #[t1, t2] o.type #[ev tm x, ev tm y]))) := by
      simp only [execOp, hop, resolve, hc, ha, hat, List.map_toArray, List.map_cons, List.map_nil]
      rfl
    rw [this, Sem.run_bind, hvalx, hvaly, hr]; rfl
  have hfy : ∀ w', w'.heap = w.heap → (Builtin.firstCells ei.size vy.rows.length (.slice ay vy.rows.length capy)).run P w' = .ok csy.toArray w' := by
    intro w' hw
    rw [hszy]; exact run_first (hly.heap hw)
  have hfx : ∀ w', w'.heap = w.heap → (Builtin.firstCells ei.size vx.rows.length (.slice ax vx.rows.length capx)).run P w' = .ok csx.toArray w' := by
    intro w' hw
    rw [hszx]; exact run_first (hlx.heap hw)
  obtain ⟨hfit, hgrow⟩ := run_app (ty := o.type) (vy := .slice ay vy.rows.length capy) h1 h2 h3 hz rfl hfy hfx hby hb0 hcapx
  have hnx : fx.Nodup ∧ ∀ b ∈ fx, b ∈ f2 := by
    rcases hax with ⟨_, _, rfl⟩ | ⟨ad, _, _, _, hsub⟩
    · simp
    · exact ⟨H2.nd.sublist (List.Sublist.trans (List.sublist_cons_self ..) hsub), fun b hb => hsub.subset (List.mem_cons_of_mem _ hb)⟩
  have hny : fy.Nodup ∧ ∀ b ∈ fy, b ∈ f1 := ⟨H1.nd.sublist hfysub, fun b hb => hfysub.subset hb⟩
  have hnd : (fx ++ fy).Nodup := by
    rw [List.nodup_append]
    exact ⟨hnx.1, hny.1, fun a ha b hb e => hdis b (hny.2 b hb) (by rw [← e]; exact hnx.2 a ha)⟩
  have hsub : ∀ b ∈ fx ++ fy, b ∈ f2 ++ f1 := by
    intro b hb
    rcases List.mem_append.1 hb with hb | hb
    · exact List.mem_append.2 (.inl (hnx.2 b hb))
    · exact List.mem_append.2 (.inr (hny.2 b hb))
  rw [← hszx] at hrx
  rw [← hszy] at hry2
  by_cases hle : vx.rows.length + vy.rows.length ≤ capx
  · have hr := hfit hle
    rcases hax with ⟨rfl, rfl, rfl⟩ | ⟨ad, rfl, hsp, hcl, hads⟩
    · refine ⟨_, _, w, hcall _ _ hr, .inl rfl, ?_⟩
      have e1 : vx.rows = [] := List.length_eq_zero_iff.1 (by omega)
      have e2 : vy.rows = [] := List.length_eq_zero_iff.1 (by omega)
      refine H.out hI (f' := []) (by simp) ?_ (by simp) (by simp)
      rw [e1, e2]
      simp only [TOk, Rep]
      exact ⟨none, 0, 0, [], [], rfl, rfl, Nat.le_refl _, by simp [RepRows], by simp [SlOk], by simp⟩
    · simp only [] at hr
      rw [add_spot hsp] at hr
      have hroom : ad.off + vx.rows.length * ei.size + 0 + csy.length ≤ ad.off + capx * vx.sz := by
        rw [hry2.len, ← hszx, Nat.add_zero, Nat.add_assoc, ← Nat.add_mul]
        exact Nat.add_le_add_left (Nat.mul_le_mul_right _ hle) _
      rw [run_storeCells csy 0 w hcl hroom (rows_oneCells hdy hry2)] at hr
      refine ⟨_, _, _, hcall _ _ hr, .inl rfl, ?_⟩
      have := app_fit (sz := ei.size) (lx := vx.rows.length) (cap := capx) hI H hsp hrx hry2 (hlx.at' ad rfl).2.1 (by rw [← hszx] at hcl; exact hcl) rfl hle (by
        exact List.mem_append.2 (.inl (hads.subset List.mem_cons_self))) (by
        rw [List.nodup_cons]
        refine ⟨?_, hnd⟩
        intro hb
        rcases List.mem_append.1 hb with hb | hb
        · have := H2.nd.sublist hads
          rw [List.nodup_cons] at this
          exact this.1 hb
        · exact hdis _ (hny.2 _ hb) (hads.subset List.mem_cons_self)) hsub
      rw [Nat.add_zero]; exact this
  · obtain ⟨cap, dr, hcap, hr⟩ := hgrow (by omega)
    refine ⟨_, _, _, hcall _ _ hr, .inl rfl, ?_⟩
    refine app_grow (c0 := csx ++ csy) (rest := (Builtin.zeroCells z.cells (cap - (vx.rows.length + vy.rows.length))).toList) hI H (RepRows.append hrx hry2) hnd hsub (by simp) (by simp) hcap ?_
    simp only [Array.size_append, zeroCells_size, hzs, List.size_toArray, hrx.len, hry2.len]
    rw [← Nat.add_mul, ← Nat.add_mul]; congr 1; omega
end
end Pv

set_option linter.unusedVariables false
set_option linter.unusedSimpArgs false
namespace Pv
open Go
section
variable {P : Program} {E E2 : Env} {w w2 : World} {β β2 : Nat → Option Nat} {s s2 : St} {tm : Array Value} {g g2 : Nat → List Nat} {cx : Cx} {C : Orc}
theorem lookA_ok (hI : Inv E w β s tm g) {x : Operand} {X : O} {r : List V} (hx : OpdOk x X) (h : s.lookA X = some r) :
    ∃ cs : Array Value, ev tm x = .agg cs ∧ cs.size = r.length ∧ ∀ (k : Nat) (v : V) (c : Value), r[k]? = some v → cs.toList[k]? = some c → v.noOwn = true → Rep E w β v c [] := by
  unfold St.lookA at h
  split at h
  · rename_i r' hv
    obtain rfl := Option.some.inj h
    obtain ⟨fp, h1, _⟩ := opd_tok hI hx hv
    simp only [TOk] at h1
    obtain ⟨cs, e, hr⟩ := h1
    refine ⟨cs, e, by rw [← Array.length_toList, hr.len], fun k v c hk hc hn => ?_⟩
    obtain ⟨c1, c', c2, f1, gq, f2, e1, e2, e3, e4, _, _⟩ := hr.at hk
    have : c = c' := by rw [e1, ← e3] at hc; simpa using hc.symm
    subst this
    have := noOwn_fp hn e4
    subst this; exact e4
  · rename_i p n hv
    unfold St.merge at h
    split at h
    case h_2 => simp at h
    rename_i q hq
    obtain rfl := Option.some.inj h
    obtain ⟨fp, h1, _⟩ := opd_tok hI hx hv
    simp only [TOk] at h1
    obtain ⟨_, _, cs, e, hl, hk⟩ := h1
    obtain ⟨ds, f, k1, k2, k3, k4, k5⟩ := cells_rep hI hq
    refine ⟨cs, e, by rw [hl, mergeRow_len (by rw [k2])], fun k v c hkv hc hn => ?_⟩
    obtain ⟨a, b, m1, m2, m3⟩ := mergeRow_get hkv
    have := hk k a c m1 hc
    split at m3
    · rename_i ha
      subst m3
      rw [if_pos ha] at this; exact this
    · rename_i ha
      rw [if_neg ha] at this
      by_cases hd : v = .dead
      · subst hd; simp [Rep]
      · rw [m3] at hd hn
        obtain ⟨e2, l, sz, rows, e3⟩ := alv_of hd
        rw [e2] at m3
        subst m3
        subst e3
        have := this l sz rows (k5 k _ m2)
        rw [show p.at k = shift p k from rfl, k4 k _ m2 (by simp)] at this
        obtain ⟨c1, c', c2, f1, gq, f2, q1, q2, q3, q4, _, _⟩ := k1.at m2
        have hcc : c = c' := by rw [q1, ← q3] at this; simpa using this.symm
        subst hcc
        have hn' : (V.sl l sz rows).noOwn = true := by rw [e2] at hn; exact hn
        have := noOwn_fp hn' q4
        subst this; exact q4
  · simp at h
def eqOk (P : Program) (t : TypeId) (ks : List Bool) : Bool := match P.underlying t with
  | some (.struct fs) => fs.size == ks.length && ((fs.toList.zip ks).zipIdx.all fun x => x.1.1.offset == x.2 && x.1.1.name != "_" && (match P.underlying x.1.1.type with
    | some .bool => x.1.2
    | some (.int _) => !x.1.2
    | _ => false)) && !P.stoodInHeld t && !P.eqGuardType P.depth t
  | _ => false
theorem run_part1 {t : TypeId} {cs : Array Value} {off : Nat} {v : Value} {d : TypeDesc} (h : P.underlying t = some d) (hd : isAggD d = false) (hc : cs.toList[off]? = some v) : (part t cs off).run P w = .ok v w := by
  unfold part
  rw [Sem.run_bind, run_isAgg w h, Result.andThen_ok, hd]
  have : cs[off]? = some v := by rw [← hc, Array.getElem?_toList]
  simp only [Bool.false_eq_true, if_false, this]
  rfl
theorem eqFields_ok {d : Nat} {xs ys : Array Value} : ∀ (fs : List Field) (ks : List Bool) (a b : List V) (t : Bool) (k : Nat),
    (∀ i (x : V) (c : Value), a[i]? = some x → xs.toList[k + i]? = some c → x.noOwn = true → Rep E w β x c []) → (∀ i (x : V) (c : Value), b[i]? = some x → ys.toList[k + i]? = some c → x.noOwn = true → Rep E w β x c []) →
    xs.size = k + a.length → ys.size = k + b.length → fs.length = ks.length →
    (((fs.zip ks).zipIdx k).all fun x => x.1.1.offset == x.2 && x.1.1.name != "_" && (match P.underlying x.1.1.type with
    | some .bool => x.1.2
    | some (.int _) => !x.1.2
    | _ => false)) = true → eqRowK ks a b = some t → (Op.eqFields (d + 1) xs ys fs).run P w = .ok t w
  | [], [], [], [], t, k, _, _, _, _, _, _, h => by simp [eqRowK] at h; subst h; simp [Op.eqFields]
  | [], [], [], _ :: _, t, k, _, _, _, _, _, _, h => by simp [eqRowK] at h
  | [], [], _ :: _, _, t, k, _, _, _, _, _, _, h => by simp [eqRowK] at h
  | [], _ :: _, _, _, _, _, _, _, _, _, hl, _, _ => by simp at hl
  | _ :: _, [], _, _, _, _, _, _, _, _, hl, _, _ => by simp at hl
  | _ :: _, _ :: _, [], _, t, k, _, _, _, _, _, _, h => by simp [eqRowK] at h
  | _ :: _, _ :: _, _ :: _, [], t, k, _, _, _, _, _, _, h => by simp [eqRowK] at h
  | f :: fs, kd :: ks, a :: r, b :: q, t, k, ha, hb, hxs, hys, hl, hall, h => by
    simp only [List.length_cons] at hxs hys hl
    simp only [List.zip_cons_cons, List.zipIdx_cons, List.all_cons, Bool.and_eq_true] at hall
    obtain ⟨⟨⟨h1, h2⟩, h3⟩, h4⟩ := hall
    simp only [eqRowK] at h
    split at h
    case isFalse => simp at h
    rename_i hk
    split at h
    case h_2 => simp at h
    rename_i t1 t2 e1 e2
    obtain rfl := Option.some.inj h
    simp only [beq_iff_eq] at h1
    have hn' : f.name ≠ "_" := by simpa using h2
    obtain ⟨ca, hca⟩ : ∃ c, xs.toList[k]? = some c := ⟨xs.toList[k]'(by simp; omega), by simp⟩
    obtain ⟨cb, hcb⟩ : ∃ c, ys.toList[k]? = some c := ⟨ys.toList[k]'(by simp; omega), by simp⟩
    have ih := eqFields_ok fs ks r q t2 (k + 1) (fun i x c hx hc hn => ha (i + 1) x c (by simpa using hx) (by rw [← hc]; congr 1; omega) hn) (fun i x c hx hc hn => hb (i + 1) x c (by simpa using hx) (by rw [← hc]; congr 1; omega) hn) (by omega) (by omega) (by omega) h4 e2 (d := d)
    have key : ∃ td, P.underlying f.type = some td ∧ isAggD td = false ∧ (Op.equalIn (d + 1) f.type ca cb).run P w = .ok t1 w := by
      unfold eqV at e1
      split at e1
      · rename_i k1 n1 k2 n2
        split at e1
        case isFalse => simp at e1
        rename_i hkk
        subst hkk
        obtain rfl := Option.some.inj e1
        simp only [V.isBool] at hk
        subst hk
        have r1 := ha 0 _ ca rfl (by simpa using hca) rfl
        have r2 := hb 0 _ cb rfl (by simpa using hcb) rfl
        simp only [Rep] at r1 r2
        obtain ⟨rfl, _, _⟩ := r1
        obtain ⟨rfl, _, _⟩ := r2
        split at h3
        · simp at h3
        · rename_i kk hu
          exact ⟨_, hu, rfl, by simp [Op.equalIn, run_underlying hu]⟩
        · simp at h3
      · obtain rfl := Option.some.inj e1
        simp only [V.isBool] at hk
        subst hk
        have r1 := ha 0 _ ca rfl (by simpa using hca) rfl
        have r2 := hb 0 _ cb rfl (by simpa using hcb) rfl
        simp only [Rep] at r1 r2
        obtain ⟨rfl, _, _⟩ := r1
        obtain ⟨rfl, _, _⟩ := r2
        split at h3
        · rename_i hu
          exact ⟨_, hu, rfl, by simp [Op.equalIn, run_underlying hu]⟩
        · simp at h3
        · simp at h3
      · simp at e1
    obtain ⟨td, hu, hd, hq⟩ := key
    rw [Op.eqFields]
    simp only [if_pos hn', Sem.run_bind, h1, run_part1 (w := w) hu hd hca, run_part1 (w := w) hu hd hcb, hq, Result.andThen_ok]
    cases t1
    · simp
    · simpa using ih
theorem q_eq (hI : Inv E w β s tm g) {o : Oper} {neg : Bool} {ks : List Bool} {ty ty2 : TypeId} {x y : Operand} {X Y : O} {t : T} {M : List (Nat × Nat)} (hop : o.op = .binOp (if neg then .neq else .eql) ty x y ty2) (hty : eqOk P ty ks = true) (hx : OpdOk x X) (hy : OpdOk y Y)
    (hev : evIns C cx s (.eq neg ks) [X, Y] = some (t, s2, M)) : s2 = s ∧ Does P cx E w β s tm g o t s := by
  simp only [evIns] at hev
  split at hev
  case h_2 => simp at hev
  rename_i a b ha hb
  split at hev
  case h_2 => simp at hev
  rename_i r hr
  simp only [Option.some.injEq, Prod.mk.injEq] at hev
  obtain ⟨rfl, rfl, rfl⟩ := hev
  obtain ⟨xs, e1, l1, k1⟩ := lookA_ok hI hx ha
  obtain ⟨ys, e2, l2, k2⟩ := lookA_ok hI hy hb
  unfold eqOk at hty
  split at hty
  case h_2 => simp at hty
  rename_i fs hu
  simp only [Bool.and_eq_true, Bool.not_eq_true', beq_iff_eq] at hty
  obtain ⟨⟨⟨h1, h2⟩, h3⟩, h4⟩ := hty
  have hf : P.fieldsOf ty = fs := by simp [Program.fieldsOf, hu]
  have hq : (Op.equal ty (.agg xs) (.agg ys)).run P w = .ok r w := by
    unfold Op.equal
    rw [show Op.maxDepth = 9999 + 1 from rfl, run_equalIn_struct (P := P) w 9999 ty xs ys (by rw [hf]; exact hu) h3, hf]
    refine eqFields_ok (d := 9998) fs.toList ks a b r 0 (fun i x c hx hc => k1 i x c hx (by simpa using hc)) (fun i x c hx hc => k2 i x c hx (by simpa using hc)) (by omega) (by omega) (by simpa using h1) h2 hr
  have hg : ∀ op, (eqGuard op ty x y (.agg xs) (.agg ys)).run P w = .ok () w := by
    intro op
    cases op <;> simp [eqGuard, h4]
  refine ⟨rfl, does_pure hI (cv := .bool (if neg then !r else r)) ?_ (by simp) (tok_sc rfl)⟩
  cases neg
  · simp only [Bool.false_eq_true, if_false] at hop ⊢
    refine exec_v (sm := (do eqGuard .eql ty x y (ev tm x) (ev tm y); binOp .eql ty (ev tm x) (ev tm y))) (by simp [execOp, hop]) ?_
    rw [e1, e2, Sem.run_bind, hg, Result.andThen_ok]
    simp only [binOp, Sem.run_bind, hq, Result.andThen_ok]; rfl
  · simp only [if_true] at hop ⊢
    refine exec_v (sm := (do eqGuard .neq ty x y (ev tm x) (ev tm y); binOp .neq ty (ev tm x) (ev tm y))) (by simp [execOp, hop]) ?_
    rw [e1, e2, Sem.run_bind, hg, Result.andThen_ok]
    simp only [binOp, Sem.run_bind, hq, Result.andThen_ok]; rfl
theorem place_off {p : Pl} {i : Nat} {row : List V} {n : Nat} (h : s.get i = some (.agg row, n)) (off : Nat) : ({ Pl.ofTmp s i with off := off } : Pl) = shift (Pl.ofTmp s i) off := by
  simp [Pl.ofTmp, shift]
theorem shiftPath_shift : ∀ (q : List (Nat × Nat × Nat)) (j k : Nat), shiftPath (shiftPath q j) k = shiftPath q (j + k)
  | [], _, _ => rfl
  | [(i, sz, o)], j, k => by simp [shiftPath, Nat.add_assoc]
  | a :: b :: q, j, k => by
    have ih := shiftPath_shift (b :: q) j k
    obtain ⟨st, q', e⟩ := shiftPath_cons b q j
    simp only [shiftPath]
    rw [e] at ih ⊢
    simp only [shiftPath]
    rw [ih]
theorem shift_shift (p : Pl) (j k : Nat) : shift (shift p j) k = shift p (j + k) := by
  obtain ⟨r, off, path, ver⟩ := p
  cases path with
  | nil => simp [shift, Nat.add_assoc]
  | cons a q =>
    have ih := shiftPath_shift (a :: q) j k
    obtain ⟨st, q', e⟩ := shiftPath_cons a q j
    simp only [shift]
    rw [e] at ih ⊢
    simp only []
    rw [ih]
theorem q_field1 (hI : Inv E w β s tm g) {o : Oper} {sT : TypeId} {fs : Array Field} {i : Nat} {f : Field} {d : TypeDesc} {x : Operand} {X : O} {t : T} {M : List (Nat × Nat)} (hop : o.op = .field sT x i) (h1 : P.underlying sT = some (.struct fs)) (h2 : fs[i]? = some f)
    (h3 : P.underlying f.type = some d) (hd : isAggD d = false) (hx : OpdOk x X) (hev : evIns C cx s (.fieldV f.offset none) [X] = some (t, s2, M)) : s2 = s ∧ Does P cx E w β s tm g o t s := by
  have key : ∀ (cs : Array Value) c, ev tm x = .agg cs → cs.toList[f.offset]? = some c → (execOp (ev tm) o).run P w = .ok (.value c) w := by
    intro cs c e hc
    refine exec_v (sm := Instr.field sT (ev tm x) i) (by simp [execOp, hop]) ?_
    unfold Instr.field
    rw [Sem.run_bind, run_underlying h1, Result.andThen_ok]
    simp only [h2, e]
    rw [Sem.run_bind]
    exact run_part1 h3 hd hc
  simp only [evIns] at hev
  split at hev
  · rename_i r j hv
    split at hev
    case h_2 => simp at hev
    rename_i v hr
    split at hev
    case h_2 => simp at hev
    rename_i t' ht
    simp only [Option.some.injEq, Prod.mk.injEq] at hev
    obtain ⟨rfl, rfl, rfl⟩ := hev
    obtain ⟨fp, k1, k2⟩ := opd_tok hI hx hv
    rcases k2 with ⟨i', e, rfl, hi, rfl⟩ | ⟨⟨y, e⟩, _⟩
    case inr => simp at e
    obtain rfl : j = i' := by simpa using e
    simp only [TOk] at k1
    obtain ⟨cs, e1, hrep⟩ := k1
    obtain ⟨c1, c, c2, f1, gq, f2, m1, m2, m3, m4, _, _⟩ := hrep.at hr
    have hc : cs.toList[f.offset]? = some c := by rw [m1, ← m3]; simp
    simp only [St.opv] at hv
    split at hv
    case h_2 => simp at hv
    rename_i y hy
    obtain ⟨t0, n0⟩ := y
    simp only [Option.some.injEq] at hv; subst hv
    have hcv : cvOf tm j = .agg cs := by rw [cvOf_low hi]; exact e1
    have hpl : plVal w β tm (shift (Pl.ofTmp s j) f.offset) = some c := by
      simp only [plVal, Pl.ofTmp, shift, topVal, isBox_low hi, Bool.false_eq_true, if_false, hcv, Nat.zero_add]
      exact hc
    rw [place_off (p := Pl.ofTmp s j) hy] at ht
    refine ⟨rfl, does_pure hI (key cs c e1 hc) ?_ (al_tok hI ((alOk_tmp hi hy).shift _) (cell_row hy hr) (fun _ => hpl) (fun _ => ⟨gq, m4⟩) ht)⟩
    unfold alOf at ht
    split at ht
    · simp at ht
    · obtain rfl := Option.some.inj ht; split <;> simp
  · rename_i p m hv
    split at hev
    case h_2 => simp at hev
    rename_i v hr
    split at hev
    case h_2 => simp at hev
    rename_i t' ht
    simp only [Option.some.injEq, Prod.mk.injEq] at hev
    obtain ⟨rfl, rfl, rfl⟩ := hev
    obtain ⟨fp, k1, k2⟩ := opd_tok hI hx hv
    simp only [TOk] at k1
    obtain ⟨_, hal, cs, e1, hl, hk⟩ := k1
    have hlt := (List.getElem?_eq_some_iff.1 hr).1
    obtain ⟨c, hc⟩ : ∃ c, cs.toList[f.offset]? = some c := ⟨cs.toList[f.offset]'(by simp; omega), by simp⟩
    have hkk := hk f.offset v c hr hc
    have ht2 : (if v.noOwn then T.one v else T.al (shift p f.offset)) = t' := by
      unfold alOf at ht
      split at ht
      · simp at ht
      · exact Option.some.inj ht
    refine ⟨rfl, does_pure hI (key cs c e1 hc) (by rw [← ht2]; split <;> simp) ?_⟩
    rw [← ht2]
    split
    · rename_i hn
      rw [if_pos hn] at hkk; exact hkk
    · rename_i hn
      rw [if_neg hn] at hkk
      simp only [TOk]
      exact ⟨trivial, hal.shift _, hkk⟩
  · simp at hev
theorem run_partN {t : TypeId} {cs : Array Value} {off : Nat} {d : TypeDesc} {i : TypeInfo} (h : P.underlying t = some d) (hd : isAggD d = true) (hi : P.info? t = some i) : (part t cs off).run P w = .ok (.agg (cs.extract off (off + i.size))) w := by
  unfold part
  rw [Sem.run_bind, run_isAgg w h, Result.andThen_ok, hd]
  simp only [if_true]
  rw [Sem.run_bind, run_size w hi]; rfl
theorem extract_list (cs : Array Value) (off n : Nat) : (cs.extract off (off + n)).toList = (cs.toList.drop off).take n := by
  simp [List.extract_eq_take_drop, List.take_drop]
theorem q_fieldN (hI : Inv E w β s tm g) {o : Oper} {sT : TypeId} {fs : Array Field} {i : Nat} {f : Field} {d : TypeDesc} {fi : TypeInfo} {x : Operand} {X : O} {t : T} {M : List (Nat × Nat)} (hop : o.op = .field sT x i) (h1 : P.underlying sT = some (.struct fs)) (h2 : fs[i]? = some f)
    (h3 : P.underlying f.type = some d) (hd : isAggD d = true) (h4 : P.info? f.type = some fi) (hx : OpdOk x X) (hev : evIns C cx s (.fieldV f.offset (some fi.size)) [X] = some (t, s2, M)) : s2 = s ∧ Does P cx E w β s tm g o t s := by
  have key : ∀ (cs : Array Value), ev tm x = .agg cs → (execOp (ev tm) o).run P w = .ok (.value (.agg (cs.extract f.offset (f.offset + fi.size)))) w := by
    intro cs e
    refine exec_v (sm := Instr.field sT (ev tm x) i) (by simp [execOp, hop]) ?_
    unfold Instr.field
    rw [Sem.run_bind, run_underlying h1, Result.andThen_ok]
    simp only [h2, e]
    rw [Sem.run_bind]
    exact run_partN h3 hd h4
  simp only [evIns] at hev
  split at hev
  · rename_i r j hv
    split at hev
    case isFalse => simp at hev
    rename_i hle
    simp only [Option.some.injEq, Prod.mk.injEq] at hev
    obtain ⟨rfl, rfl, rfl⟩ := hev
    obtain ⟨fp, k1, k2⟩ := opd_tok hI hx hv
    rcases k2 with ⟨i', e, rfl, hi, rfl⟩ | ⟨⟨y, e⟩, _⟩
    case inr => simp at e
    obtain rfl : j = i' := by simpa using e
    simp only [TOk] at k1
    obtain ⟨cs, e1, hrep⟩ := k1
    have hlen := hrep.len
    have e : r = r.take f.offset ++ ((r.drop f.offset).take fi.size ++ (r.drop f.offset).drop fi.size) := by rw [List.take_append_drop, List.take_append_drop]
    have hrep0 := hrep
    rw [e] at hrep
    obtain ⟨c1, d1, f1, f2, q1, q2, q3, q4⟩ := hrep.split
    obtain ⟨c2, c3, g3, g4, rfl, rfl, q5, q6⟩ := q4.split
    have hl1 : c1.length = f.offset := by rw [q3.len, List.length_take]; omega
    have hl2 : c2.length = fi.size := by rw [q5.len, List.length_take, List.length_drop]; omega
    have hc2 : (cs.toList.drop f.offset).take fi.size = c2 := by
      rw [q1, ← hl1, List.drop_left, ← hl2, List.take_left]
    simp only [St.opv] at hv
    split at hv
    case h_2 => simp at hv
    rename_i y hy
    obtain ⟨t0, n0⟩ := y
    simp only [Option.some.injEq] at hv; subst hv
    have hcv : cvOf tm j = .agg cs := by rw [cvOf_low hi]; exact e1
    rw [place_off (p := Pl.ofTmp s j) hy]
    refine ⟨rfl, does_pure hI (key cs e1) (by unfold alaOf; split <;> simp) ?_⟩
    refine ala_tok (cs := c2) ((alOk_tmp hi hy).shift _) q5 ?_ ?_ ?_
    · intro k v hkv hdv
      have hkl : k < fi.size := by
        have := (List.getElem?_eq_some_iff.1 hkv).1
        rw [List.length_take] at this; omega
      simp only [plVal, Pl.ofTmp, shift, topVal, isBox_low hi, Bool.false_eq_true, if_false, hcv, Nat.zero_add]
      rw [← hc2, List.getElem?_take_of_lt hkl, List.getElem?_drop]
    · intro k v hkv
      have hkl : k < fi.size := by
        have := (List.getElem?_eq_some_iff.1 hkv).1
        rw [List.length_take] at this; omega
      rw [List.getElem?_take_of_lt hkl, List.getElem?_drop] at hkv
      have := cell_row hy hkv
      simpa [shift, Pl.ofTmp] using this
    · congr 1
      rw [← hc2, ← extract_list]
  · rename_i p m hv
    split at hev
    case isFalse => simp at hev
    rename_i hle
    simp only [Option.some.injEq, Prod.mk.injEq] at hev
    obtain ⟨rfl, rfl, rfl⟩ := hev
    obtain ⟨fp, k1, k2⟩ := opd_tok hI hx hv
    simp only [TOk] at k1
    obtain ⟨_, hal, cs, e1, hl, hk⟩ := k1
    refine ⟨rfl, does_pure hI (key cs e1) (by unfold alaOf; split <;> simp) ?_⟩
    have hex := extract_list cs f.offset fi.size
    have hget : ∀ k v, ((m.drop f.offset).take fi.size)[k]? = some v → m[f.offset + k]? = some v ∧ k < fi.size := by
      intro k v hkv
      have hkl : k < fi.size := by
        have := (List.getElem?_eq_some_iff.1 hkv).1
        rw [List.length_take] at this; omega
      rw [List.getElem?_take_of_lt hkl, List.getElem?_drop] at hkv
      exact ⟨hkv, hkl⟩
    have hgetc : ∀ k c, (cs.extract f.offset (f.offset + fi.size)).toList[k]? = some c → k < fi.size → cs.toList[f.offset + k]? = some c := by
      intro k c hc hkl
      rw [hex, List.getElem?_take_of_lt hkl, List.getElem?_drop] at hc
      exact hc
    have hsz : (cs.extract f.offset (f.offset + fi.size)).size = ((m.drop f.offset).take fi.size).length := by
      rw [← Array.length_toList, hex]; simp [hl]
    have hsh : ∀ k, p.at (f.offset + k) = (shift p f.offset).at k := fun k => (shift_shift p f.offset k).symm
    unfold alaOf
    split
    · rename_i hno
      simp only [TOk]
      refine ⟨_, rfl, ?_⟩
      have : ∀ (r : List V) (ds : List Value), r.length = ds.length → (∀ (k : Nat) v c, r[k]? = some v → ds[k]? = some c → Rep E w β v c []) → RepRow E w β r ds [] := by
        intro r
        induction r with
        | nil => intro ds hl _; cases ds <;> simp at hl; simp [RepRow]
        | cons v r ih =>
          intro ds hl h
          cases ds with
          | nil => simp at hl
          | cons c ds =>
            simp only [RepRow]
            exact ⟨c, ds, [], [], rfl, rfl, h 0 v c rfl rfl, ih ds (by simpa using hl) (fun k v c h1 h2 => h (k + 1) v c (by simpa using h1) (by simpa using h2))⟩
      refine this _ _ (by rw [Array.length_toList]; exact hsz.symm) (fun k v c h1 h2 => ?_)
      obtain ⟨q1, q2⟩ := hget k v h1
      have := hk _ v c q1 (hgetc k c h2 q2)
      rw [if_pos (List.all_eq_true.1 hno v (List.mem_of_getElem? h1))] at this
      exact this
    · simp only [TOk]
      refine ⟨trivial, hal.shift _, _, rfl, by rw [hsz]; simp, ?_⟩
      intro j v c hj hc
      simp only [List.getElem?_map, Option.map_eq_some_iff] at hj
      obtain ⟨v0, h1, rfl⟩ := hj
      obtain ⟨q1, q2⟩ := hget j v0 h1
      have := hk _ v0 c q1 (hgetc j c hc q2)
      rw [stub_noOwn]
      split
      · rename_i hn
        rw [if_pos hn] at this
        rw [stub_id hn]; exact this
      · rename_i hn
        rw [if_neg hn] at this
        rw [← hsh]; exact this
  · simp at hev
theorem q_idxV1 (hI : Inv E w β s tm g) {o : Oper} {tT e : TypeId} {len : Nat} {d : TypeDesc} {ei : TypeInfo} {x y : Operand} {X Y : O} {t : T} {M : List (Nat × Nat)} (hop : o.op = .index tT x y) (h1 : P.underlying tT = some (.array len e)) (h2 : P.underlying e = some d) (hd : isAggD d = false) (h3 : P.info? e = some ei)
    (hx : OpdOk x X) (hy : OpdOk y Y) (hev : evIns C cx s (.idxV len ei.size none) [X, Y] = some (t, s2, M)) : s2 = s ∧ Does P cx E w β s tm g o t s := by
  simp only [evIns] at hev
  split at hev
  case h_2 => simp at hev
  rename_i r k hr hk
  split at hev
  case isFalse => simp at hev
  rename_i hkk
  split at hev
  case h_2 => simp at hev
  rename_i v hv
  split at hev
  case isFalse => simp at hev
  rename_i hn
  simp only [Option.some.injEq, Prod.mk.injEq] at hev
  obtain ⟨rfl, rfl, rfl⟩ := hev
  obtain ⟨cs, e1, hl, hall⟩ := lookA_ok hI hx hr
  obtain ⟨kd, e2⟩ := opd_int hI hy hk
  have hlt := (List.getElem?_eq_some_iff.1 hv).1
  obtain ⟨c, hc⟩ : ∃ c, cs.toList[k.toNat * ei.size]? = some c := ⟨cs.toList[k.toNat * ei.size]'(by simp; omega), by simp⟩
  refine ⟨rfl, does_pure hI (cv := c) ?_ (by simp) (hall _ v c hv hc hn)⟩
  refine exec_v (sm := Instr.index tT (ev tm x) (ev tm y)) (by simp [execOp, hop]) ?_
  unfold Instr.index
  rw [e1, e2]
  simp only [Sem.run_bind, asIntOf, Sem.run_pure, Result.andThen_ok, run_underlying h1, hkk, and_self, if_true, run_size w h3]
  exact run_part1 h2 hd hc
theorem q_idxS (hI : Inv E w β s tm g) {o : Oper} {tT : TypeId} {x y : Operand} {X Y : O} {t : T} {M : List (Nat × Nat)} (hop : o.op = .index tT x y) (h1 : P.underlying tT = some .string)
    (hx : OpdOk x X) (hy : OpdOk y Y) (hev : evIns C cx s .idxS [X, Y] = some (t, s2, M)) : s2 = s ∧ Does P cx E w β s tm g o t s := by
  simp only [evIns] at hev
  split at hev
  case h_2 => simp at hev
  rename_i b k hb hk
  split at hev
  case isFalse => simp at hev
  rename_i hkk
  split at hev
  case h_2 => simp at hev
  rename_i c hc
  simp only [Option.some.injEq, Prod.mk.injEq] at hev
  obtain ⟨rfl, rfl, rfl⟩ := hev
  obtain ⟨e1, _⟩ := opd_sc hI hx hb
  obtain ⟨kd, e2⟩ := opd_int hI hy hk
  refine ⟨rfl, does_pure hI (cv := .int .u8 c.toNat) ?_ (by simp) (tok_sc rfl)⟩
  refine exec_v (sm := Instr.index tT (ev tm x) (ev tm y)) (by simp [execOp, hop]) ?_
  unfold Instr.index
  rw [e1, e2]
  have : b[k.toNat]? = some c := by
    rw [← hc]
    unfold getElem? instGetElem?OfGetElemOfDecidable
    rfl
  simp only [Sem.run_bind, asIntOf, Sem.run_pure, Result.andThen_ok, run_underlying h1, hkk, if_true, this]
theorem q_lenC (hI : Inv E w β s tm g) {o : Oper} {c : Call} {ty e : TypeId} {n : Nat} {x : Operand} (hop : o.op = .call c) (hc : c.callee = .builtin .len) (ha : c.args = #[x]) (hat : c.argTypes[0]? = some ty) (h1 : P.underlying ty = some (.array n e)) : Does P cx E w β s tm g o (.one (.sc (.int .i64 n))) s := by
  refine does_pure hI (cv := .int .i64 n) ?_ (by simp) (tok_sc rfl)
  simp [execOp, hop, resolve, hc, ha, invoke, builtin, Builtin.len_, hat, run_underlying h1, goInt]
theorem takePart_ok (hI : Inv E w β s tm g) {d i : Nat} {t : T} {u : Upd} {m : List (Nat × Nat)} (h : s.takePart cx d i = some (t, u, m)) :
    ∃ E2 g2 f r cs, Tkn cx E w β s tm g (s.upd u) r cs E2 g2 f ∧ (∃ ag, mkT r ag = some t ∧ cellsAre ag (cvOf tm (tupAt d i)) cs) ∧ cvOf tm (tupAt d i) ≠ .tuple #[] := by
  unfold St.takePart at h
  split at h
  case h_2 => simp at h
  rename_i t0 v hg
  split at h
  case h_2 => simp at h
  rename_i r hr
  split at h
  case h_2 => simp at h
  rename_i r' ag u' m' ht
  split at h
  case h_2 => simp at h
  rename_i t' hmk
  simp only [Option.some.injEq, Prod.mk.injEq] at h
  obtain ⟨rfl, rfl, rfl⟩ := h
  have hroot := hI.roots _ _ _ hg
  simp only [RootOk, isBox_tup, Bool.false_eq_true, if_false] at hroot
  have hplace : s.place ⟨tupAt d i, 0, [], v⟩ = some (r, 0) := place_mk (t := t0) (row := r) hg hr (by simp [getRow])
  have hcells : s.cells ⟨tupAt d i, 0, [], v⟩ r.length = some r := by simp [St.cells, hplace]
  have hnd : r.any V.isDead = false := by
    unfold St.takeAt at ht
    split at ht
    · simp at ht
    · rename_i hd; simpa using hd
  obtain ⟨cs, hca, hrep, hno, hne⟩ : ∃ cs : List Value, cellsAre t0.isAgg (cvOf tm (tupAt d i)) cs ∧ (∃ f, RepRow E w β r cs f) ∧ (∀ k c, cs[k]? = some c → ∀ v, r[k]? = some v → topVal w β tm (tupAt d i) k = some c) ∧ cvOf tm (tupAt d i) ≠ .tuple #[] := by
    cases t0 with
    | one x =>
      simp only [T.row?, Option.some.injEq] at hr
      subst hr
      simp only [TOk] at hroot
      have hx : x ≠ .dead := by
        rintro rfl; simp [V.isDead] at hnd
      have hoc := Rep.oneCell hx hroot
      refine ⟨[cvOf tm (tupAt d i)], by simp [cellsAre, T.isAgg], ⟨g (tupAt d i), by simp only [RepRow]; exact ⟨_, [], _, [], rfl, by simp, hroot, rfl, rfl⟩⟩, ?_, ?_⟩
      · intro k c hc v hv
        have hk : k = 0 := by
          have := (List.getElem?_eq_some_iff.1 hc).1
          simp at this; omega
        subst hk
        simp only [List.getElem?_cons_zero, Option.some.injEq] at hc
        subst hc
        simp only [topVal, isBox_tup, Bool.false_eq_true, if_false]
        split
        · rename_i cs hcv
          rw [hcv] at hoc; simp [Value.oneCell'] at hoc
        · simp
      · intro e; rw [e] at hoc; simp [Value.oneCell'] at hoc
    | agg r0 =>
      simp only [T.row?, Option.some.injEq] at hr
      subst hr
      simp only [TOk] at hroot
      obtain ⟨cs, e, hrep⟩ := hroot
      refine ⟨cs.toList, by simp [cellsAre, T.isAgg, e], ⟨_, hrep⟩, ?_, by rw [e]; simp⟩
      intro k c hc v hv
      simp only [topVal, isBox_tup, Bool.false_eq_true, if_false, e]
      exact hc
    | _ => simp [T.row?] at hr
  obtain ⟨f, hrep⟩ := hrep
  obtain ⟨k1, k2, E2, g2, f2, k3⟩ := tkn_of (cx := cx) hI hcells (cs := cs) hrep.len (by
    intro k a c ha hc hd
    obtain ⟨c1, c', c2, f1, gq, f3, e1, e2, e3, e4, _, _⟩ := hrep.at ha
    have : c = c' := by rw [e1, ← e3] at hc; simpa using hc.symm
    subst this
    by_cases hn : a.noOwn = true
    · have := noOwn_fp hn e4
      subst this; exact .inl ⟨hn, e4⟩
    · refine .inr ⟨own_of (by simpa using hn) hd e4, ha, ?_⟩
      have := hno k c hc a ha
      simp only [shift, plVal, Nat.zero_add]
      exact this) ht
  exact ⟨E2, g2, f2, r', cs, k3, ⟨ag, hmk, by rw [k1]; exact hca⟩, hne⟩
theorem run_extract {tm : Array Value} {d i : Nat} (hd : d < 5000) (hi : i < 100) (hne : cvOf tm (tupAt d i) ≠ .tuple #[]) : (Instr.extract (ev tm (.tmp d)) i).run P w = .ok (cvOf tm (tupAt d i)) w := by
  have e : cvOf tm (tupAt d i) = (match tm.getD d (.tuple #[]) with
    | .tuple vs => vs.getD i (.tuple #[])
    | _ => .tuple #[]) := by
    simp only [cvOf]
    rw [tupAt_eq, if_pos (by omega), show (30000 + 100 * d + i - 30000) / 100 = d from by omega, show (30000 + 100 * d + i - 30000) % 100 = i from by omega]
    rfl
  rw [e] at hne ⊢
  have hev : ev tm (.tmp d) = tm.getD d (.tuple #[]) := rfl
  rw [hev]
  cases hv : tm.getD d (.tuple #[]) with
  | tuple vs =>
    rw [hv] at hne
    simp only [] at hne ⊢
    have hlt : i < vs.size := by
      apply Classical.byContradiction
      intro h
      exact hne (by simp [Array.getD, h])
    simp [Instr.extract, Array.getD, hlt]
  | _ => rw [hv] at hne; simp at hne
theorem a_ext (hI : Inv E w β s tm g) {o : Oper} {d i : Nat} {t : T} {M : List (Nat × Nat)} (hop : o.op = .extract (.tmp d) i) (hd : d < 5000) (hi : i < 100) (hev : evIns C cx s (.ext i) [.t d] = some (t, s2, M)) : Does P cx E w β s tm g o t s2 := by
  simp only [evIns] at hev
  split at hev
  case h_2 => simp at hev
  rename_i t' u m ht
  simp only [Option.some.injEq, Prod.mk.injEq] at hev
  obtain ⟨rfl, rfl, rfl⟩ := hev
  obtain ⟨E2, g2, f, r, cs, k1, ⟨ag, k2, k3⟩, k4⟩ := takePart_ok (cx := cx) hI ht
  exact ⟨_, cvOf tm (tupAt d i), w, exec_v (sm := Instr.extract (ev tm (.tmp d)) i) (by simp [execOp, hop]) (run_extract hd hi k4), .inl rfl, k1.out hI k3 k2⟩
theorem mkT_solid {r : List V} {ag : Bool} {t : T} (h : mkT r ag = some t) : t.solid = true := by
  unfold mkT at h
  split at h
  · obtain rfl := Option.some.inj h; rfl
  · split at h
    · obtain rfl := Option.some.inj h; rfl
    · simp at h
theorem takeTup_ok {d : Nat} : ∀ (n i : Nat) (E : Env) (s : St) (g : Nat → List Nat) {us : List T} {s2 : St} {M : List (Nat × Nat)}, Inv E w β s tm g → takeTup cx d s i n = some (us, s2, M) →
    ∃ (E2 : Env) (g2 : Nat → List Nat) (fs : List (List Nat)), Hand cx E w β s tm g s2 E2 g2 fs.flatten ∧ fs.length = us.length ∧ us.length = n ∧ us.all T.solid = true ∧ (∀ k, k < n → cvOf tm (tupAt d (i + k)) ≠ .tuple #[]) ∧
      ∀ (k : Nat) (t : T) (f : List Nat), us[k]? = some t → fs[k]? = some f → TOk E2 w β s2 tm t (cvOf tm (tupAt d (i + k))) f
  | 0, i, E, s, g, us, s2, M, hI, h => by
    simp only [takeTup, Option.some.injEq, Prod.mk.injEq] at h
    obtain ⟨rfl, rfl, rfl⟩ := h
    exact ⟨E, g, [], Hand.refl hI, rfl, rfl, rfl, fun k hk => by omega, fun k t f h => by simp at h⟩
  | n + 1, i, E, s, g, us, s2, M, hI, h => by
    simp only [takeTup] at h
    split at h
    case h_2 => simp at h
    rename_i t u m ht
    split at h
    case h_2 => simp at h
    rename_i ts s' M' hts
    simp only [Option.some.injEq, Prod.mk.injEq] at h
    obtain ⟨rfl, rfl, rfl⟩ := h
    obtain ⟨E1, g1, f, r, cs, k1, ⟨ag, k2, k3⟩, k4⟩ := takePart_ok (cx := cx) hI ht
    obtain ⟨E2, g2, fs, m1, m2, m3, m4, m5, m6⟩ := takeTup_ok n (i + 1) E1 _ g1 k1.inv hts
    have H1 := k1.hand (List.Sublist.refl _)
    obtain ⟨H, hdis⟩ := H1.then m1
    have hst : Stp E1 w E2 w := m1.fr.stp k1.inv
    refine ⟨E2, g2, f :: fs, ?_, by simp [m2], by simp [m3], by simp [m4, mkT_solid k2], ?_, ?_⟩
    · simp only [List.flatten_cons]
      refine ⟨H.inv, H.fr.lift ?_, ?_, ?_, ?_, H.box⟩
      · intro b hb
        simp only [List.flatten_cons, List.flatten_nil, List.append_nil] at hb
        exact H.fr.res b (by simp only [List.flatten_cons, List.flatten_nil, List.append_nil]; rw [List.mem_append] at hb ⊢; exact hb.symm)
      · rw [List.nodup_append]
        exact ⟨H1.nd, m1.nd, fun a ha b hb e => hdis a ha (by rw [e]; exact hb)⟩
      · exact fun b hb => H.own b (by rw [List.mem_append] at hb ⊢; exact hb.symm)
      · exact fun j b hb => H.dis j b (by rw [List.mem_append] at hb ⊢; exact hb.symm)
    · intro k hk
      cases k with
      | zero => exact k4
      | succ k => have := m5 k (by omega); rwa [show i + 1 + k = i + (k + 1) from by omega] at this
    · intro k t' f' h1 h2
      cases k with
      | zero =>
        simp only [List.getElem?_cons_zero, Option.some.injEq] at h1 h2
        subst h1; subst h2
        have hrep := k1.rep.frame hst (fun _ _ h => h) _ _ _ (fun _ _ => rfl)
        exact (mkT_tok k2 k3 hrep).1
      | succ k =>
        have := m6 k t' f' (by simpa using h1) (by simpa using h2)
        rwa [show i + 1 + k = i + (k + 1) from by omega] at this
theorem a_moveTup (hI : Inv E w β s tm g) {o : Oper} {d : Nat} {ts : List T} {us : List T} {M : List (Nat × Nat)} (hop : o.op = .move (.tmp d)) (hd : d < 5000) (hv : s.opv (.t d) = some (.tup ts)) (h100 : ts.length ≤ 100)
    (h : takeTup cx d s 0 ts.length = some (us, s2, M)) : Does P cx E w β s tm g o (.tup us) s2 := by
  obtain ⟨E2, g2, fs, H, m2, m3, m4, m5, m6⟩ := takeTup_ok ts.length 0 E s g hI h
  obtain ⟨fp, k1, _⟩ := opd_tok hI (x := .tmp d) (X := .t d) ⟨rfl, hd⟩ hv
  simp only [TOk] at k1
  obtain ⟨_, vs, e, hvs⟩ := k1
  refine ⟨_, ev tm (.tmp d), w, by simp [execOp, hop], .inl rfl, E2, β, g2, fs, H.inv, H.fr.lift (fun b hb => H.fr.res b (by simpa using hb)), ⟨H.nd, H.own, H.dis, ?_⟩, fun hp => hp.step (fun r _ hb hs => ⟨H.box r hb hs, fun _ => rfl⟩)⟩
  refine ⟨vs, e, by rw [m3, hvs], m2, by omega, m4, ?_⟩
  intro k t v f h1 h2 h3
  have := m6 k t f h1 h3
  have hk : k < vs.size := (Array.getElem?_eq_some_iff.1 h2).1
  have hev : tm.getD d (.tuple #[]) = .tuple vs := e
  have hcv : cvOf tm (tupAt d (0 + k)) = v := by
    simp only [cvOf]
    rw [tupAt_eq, if_pos (by omega), show (30000 + 100 * d + (0 + k) - 30000) / 100 = d from by omega, show (30000 + 100 * d + (0 + k) - 30000) % 100 = k from by omega, hev]
    simp only [Array.getD]
    rw [dif_pos hk]
    have := (Array.getElem?_eq_some_iff.1 h2).2
    exact this
  rw [hcv] at this; exact this
end
end Pv

set_option linter.unusedVariables false
set_option linter.unusedSimpArgs false
namespace Pv
open Go
section
variable {P : Program} {E E2 : Env} {w w2 : World} {β β2 : Nat → Option Nat} {s s2 : St} {tm : Array Value} {g g2 : Nat → List Nat} {cx : Cx} {C : Orc}
theorem mapLRow_len (φ : Lab → Lab) : ∀ (r : List V), (mapLRow φ r).length = r.length
  | [] => rfl
  | _ :: r => by simp only [mapLRow, List.length_cons]; rw [mapLRow_len φ r]
theorem mapLRows_len (φ : Lab → Lab) : ∀ (r : List (List V)), (mapLRows φ r).length = r.length
  | [] => rfl
  | _ :: r => by simp only [mapLRows, List.length_cons]; rw [mapLRows_len φ r]
theorem mapL_noPtr (φ : Lab → Lab) (v : V) : (v.mapL φ).noPtr = v.noPtr := by cases v <;> rfl
theorem mapLRow_noPtr (φ : Lab → Lab) : ∀ (r : List V), (mapLRow φ r).all V.noPtr = r.all V.noPtr
  | [] => rfl
  | v :: r => by simp only [mapLRow, List.all_cons, mapL_noPtr, mapLRow_noPtr φ r]
mutual
theorem mapL_id (φ : Lab → Lab) (h : ∀ l, φ l = l) : ∀ (v : V), v.mapL φ = v
  | .sl l sz rows => by simp only [V.mapL, h, mapLRows_id φ h rows]
  | .sc _ => rfl
  | .ptr .. => rfl
  | .clo .. => rfl
  | .mref _ => rfl
  | .mp .. => rfl
  | .dead => rfl
theorem mapLRow_id (φ : Lab → Lab) (h : ∀ l, φ l = l) : ∀ (r : List V), mapLRow φ r = r
  | [] => rfl
  | v :: r => by simp only [mapLRow, mapL_id φ h v, mapLRow_id φ h r]
theorem mapLRows_id (φ : Lab → Lab) (h : ∀ l, φ l = l) : ∀ (r : List (List V)), mapLRows φ r = r
  | [] => rfl
  | v :: r => by simp only [mapLRows, mapLRow_id φ h v, mapLRows_id φ h r]
end
structure Turn (E : Env) (E2 : Env) (q : Lab → Bool) (φ : Lab → Lab) : Prop where
  own : φ .own = .own
  ok : ∀ l b, l ≠ .own → q l = false → LabOk E l b → LabOk E2 (φ l) b
  ne : ∀ l, l ≠ .own → φ l ≠ .own
  hdr : ∀ l t, l ≠ .own → q l = false → φ l = .lent t → ∃ t', l = .lent t' ∧ E2.hdr t = E.hdr t'
mutual
theorem Rep.mapL {q : Lab → Bool} {φ : Lab → Lab} (T : Turn E E2 q φ) : ∀ (v : V) (cv : Value) (fp : List Nat), v.anyL q = false → Rep E w β v cv fp → Rep E2 w β (v.mapL φ) cv fp
  | .sc _, _, _, _, h => by simpa [Rep, V.mapL] using h
  | .sl l sz rows, cv, fp, hq, h => by
    simp only [V.anyL, Bool.or_eq_false_iff] at hq
    simp only [Rep, V.mapL] at h ⊢
    obtain ⟨a, len, cap, cs, f, h1, h2, h3, h4, h5, h6⟩ := h
    refine ⟨a, len, cap, cs, f, h1, by rw [mapLRows_len]; exact h2, h3, RepRows.mapL T sz rows cs f hq.2 h4, ?_, ?_⟩
    · cases a with
      | none => exact h5
      | some a =>
        simp only [SlOk] at h5 ⊢
        obtain ⟨g1, g2, g3, g4⟩ := h5
        refine ⟨g1, g2, g3, ?_⟩
        rcases g4 with ⟨e, g5, g6⟩ | ⟨e, g5, g6, g7⟩
        · exact .inl ⟨by rw [e]; exact T.own, g5, g6⟩
        · exact .inr ⟨T.ne l e, g5, g6, T.ok l _ e hq.1 g7⟩
    · intro t ht
      by_cases hl : l = .own
      · rw [hl, T.own] at ht; simp at ht
      · obtain ⟨t', e, e2⟩ := T.hdr l t hl hq.1 ht
        rw [e2]; exact h6 t' e
  | .ptr _ _, _, _, _, h => by simpa [Rep, V.mapL] using h
  | .clo _ _ _, _, _, _, h => by simpa [Rep, V.mapL] using h
  | .mref _, _, _, _, h => by simpa [Rep, V.mapL] using h
  | .mp .., _, _, _, h => by simp [Rep] at h
  | .dead, _, _, _, h => by simpa [Rep, V.mapL] using h
theorem RepRow.mapL {q : Lab → Bool} {φ : Lab → Lab} (T : Turn E E2 q φ) : ∀ (r : List V) (cs : List Value) (fp : List Nat), anyLRow q r = false → RepRow E w β r cs fp → RepRow E2 w β (mapLRow φ r) cs fp
  | [], _, _, _, h => by simpa [RepRow, mapLRow] using h
  | v :: r, cs, fp, hq, h => by
    simp only [anyLRow, Bool.or_eq_false_iff] at hq
    simp only [RepRow, mapLRow] at h ⊢
    obtain ⟨c, cs', f, f', h1, h2, h3, h4⟩ := h
    exact ⟨c, cs', f, f', h1, h2, Rep.mapL T v c f hq.1 h3, RepRow.mapL T r cs' f' hq.2 h4⟩
theorem RepRows.mapL {q : Lab → Bool} {φ : Lab → Lab} (T : Turn E E2 q φ) (sz : Nat) : ∀ (r : List (List V)) (cs : List Value) (fp : List Nat), anyLRows q r = false → RepRows E w β sz r cs fp → RepRows E2 w β sz (mapLRows φ r) cs fp
  | [], _, _, _, h => by simpa [RepRows, mapLRows] using h
  | v :: r, cs, fp, hq, h => by
    simp only [anyLRows, Bool.or_eq_false_iff] at hq
    simp only [RepRows, mapLRows] at h ⊢
    obtain ⟨c, cs', f, f', h1, h2, h3, h4, h5, h6⟩ := h
    exact ⟨c, cs', f, f', h1, h2, by rw [mapLRow_len]; exact h3, by rw [mapLRow_noPtr]; exact h4, RepRow.mapL T v c f hq.1 h5, RepRows.mapL T sz r cs' f' hq.2 h6⟩
end
mutual
theorem anyL_none : ∀ (v : V), v.anyL (fun _ => false) = false
  | .sl l sz rows => by simp only [V.anyL, anyLRows_none rows, Bool.or_self]
  | .sc _ => rfl
  | .ptr .. => rfl
  | .clo .. => rfl
  | .mref _ => rfl
  | .mp .. => rfl
  | .dead => rfl
theorem anyLRow_none : ∀ (r : List V), anyLRow (fun _ => false) r = false
  | [] => rfl
  | v :: r => by simp only [anyLRow, anyL_none v, anyLRow_none r, Bool.or_self]
theorem anyLRows_none : ∀ (r : List (List V)), anyLRows (fun _ => false) r = false
  | [] => rfl
  | v :: r => by simp only [anyLRows, anyLRow_none v, anyLRows_none r, Bool.or_self]
end
theorem prtRow_len (m n : Nat) : ∀ (r : List V), (prtRow m n r).length = r.length
  | [] => rfl
  | _ :: r => by simp only [prtRow, List.length_cons]; rw [prtRow_len m n r]
theorem prtRows_len (m n : Nat) : ∀ (r : List (List V)), (prtRows m n r).length = r.length
  | [] => rfl
  | _ :: r => by simp only [prtRows, List.length_cons]; rw [prtRows_len m n r]
theorem prt_noPtr (m n : Nat) (v : V) : (v.prt m n).noPtr = v.noPtr := by
  cases v <;> try rfl
  rename_i l sz rows
  cases l <;> rfl
theorem prtRow_noPtr (m n : Nat) : ∀ (r : List V), (prtRow m n r).all V.noPtr = r.all V.noPtr
  | [] => rfl
  | v :: r => by simp only [prtRow, List.all_cons, prt_noPtr, prtRow_noPtr m n r]
mutual
theorem Rep.prt {m n : Nat} (T : Turn E E2 (fun _ => false) (Lab.up m)) {fn : List Nat} (hn : ∀ b ∈ fn, ∃ q, E2.tag b = some q ∧ q n) : ∀ (v : V) (cv : Value) (fp : List Nat), (∀ b ∈ fp, b ∈ fn) → Rep E w β v cv fp → Rep E2 w β (v.prt m n) cv []
  | .sc _, _, _, _, h => by simp only [Rep] at h; simp [Rep, V.prt, V.mapL, h.1, h.2.1]
  | .sl .own sz rows, cv, fp, hf, h => by
    simp only [Rep, V.prt] at h ⊢
    obtain ⟨a, len, cap, cs, f, h1, h2, h3, h4, h5, h6⟩ := h
    cases a with
    | none =>
      simp only [SlOk] at h5
      have hr : rows = [] := List.length_eq_zero_iff.1 (by omega)
      subst hr
      simp only [RepRows] at h4
      refine ⟨none, len, cap, cs, [], h1, by simp only [prtRows]; exact h2, h3, by simp [prtRows, RepRows, h4.1], by simp only [SlOk]; exact ⟨h5.1, h5.2.1, trivial⟩, by simp⟩
    | some a =>
      simp only [SlOk] at h5
      obtain ⟨g1, g2, g3, g4⟩ := h5
      rcases g4 with ⟨_, rfl, g6⟩ | ⟨e, _⟩
      case inr => exact absurd rfl e
      refine ⟨some a, len, cap, cs, [], h1, by rw [prtRows_len]; exact h2, h3, RepRows.prt T hn sz rows cs f (fun b hb => hf b (List.mem_cons_of_mem _ hb)) h4, ?_, by simp⟩
      simp only [SlOk]
      exact ⟨g1, g2, g3, .inr ⟨by simp, trivial, trivial, .inr (hn _ (hf _ List.mem_cons_self))⟩⟩
  | .sl .ro sz rows, cv, fp, hf, h => by
    have hfp := noOwn_fp (v := .sl .ro sz rows) rfl h
    subst hfp
    exact Rep.mapL T (.sl .ro sz rows) cv [] (anyL_none _) h
  | .sl (.lent t) sz rows, cv, fp, hf, h => by
    have hfp := noOwn_fp (v := .sl (.lent t) sz rows) rfl h
    subst hfp
    exact Rep.mapL T (.sl (.lent t) sz rows) cv [] (anyL_none _) h
  | .sl (.part t) sz rows, cv, fp, hf, h => by
    have hfp := noOwn_fp (v := .sl (.part t) sz rows) rfl h
    subst hfp
    exact Rep.mapL T (.sl (.part t) sz rows) cv [] (anyL_none _) h
  | .ptr _ _, _, _, _, h => by simp only [Rep] at h; simp only [Rep, V.prt, V.mapL]; exact ⟨trivial, h.2⟩
  | .clo _ _ _, _, _, _, h => by simp only [Rep] at h; simp only [Rep, V.prt, V.mapL]; exact ⟨trivial, h.2⟩
  | .mref _, _, _, _, h => by simp only [Rep] at h; simp only [Rep, V.prt, V.mapL]; exact ⟨trivial, h.2⟩
  | .mp .., _, _, _, h => by simp [Rep] at h
  | .dead, _, _, _, h => by simp [Rep, V.prt, V.mapL]
theorem RepRow.prt {m n : Nat} (T : Turn E E2 (fun _ => false) (Lab.up m)) {fn : List Nat} (hn : ∀ b ∈ fn, ∃ q, E2.tag b = some q ∧ q n) : ∀ (r : List V) (cs : List Value) (fp : List Nat), (∀ b ∈ fp, b ∈ fn) → RepRow E w β r cs fp → RepRow E2 w β (prtRow m n r) cs []
  | [], _, _, _, h => by simp only [RepRow] at h; simp [RepRow, prtRow, h.1]
  | v :: r, cs, fp, hf, h => by
    simp only [RepRow, prtRow] at h ⊢
    obtain ⟨c, cs', f, f', h1, rfl, h3, h4⟩ := h
    exact ⟨c, cs', [], [], h1, rfl, Rep.prt T hn v c f (fun b hb => hf b (by simp [hb])) h3, RepRow.prt T hn r cs' f' (fun b hb => hf b (by simp [hb])) h4⟩
theorem RepRows.prt {m n : Nat} (T : Turn E E2 (fun _ => false) (Lab.up m)) {fn : List Nat} (hn : ∀ b ∈ fn, ∃ q, E2.tag b = some q ∧ q n) (sz : Nat) : ∀ (r : List (List V)) (cs : List Value) (fp : List Nat), (∀ b ∈ fp, b ∈ fn) → RepRows E w β sz r cs fp → RepRows E2 w β sz (prtRows m n r) cs []
  | [], _, _, _, h => by simp only [RepRows] at h; simp [RepRows, prtRows, h.1]
  | v :: r, cs, fp, hf, h => by
    simp only [RepRows, prtRows] at h ⊢
    obtain ⟨c, cs', f, f', h1, rfl, h3, h4, h5, h6⟩ := h
    exact ⟨c, cs', [], [], h1, rfl, by rw [prtRow_len]; exact h3, by rw [prtRow_noPtr]; exact h4, RepRow.prt T hn v c f (fun b hb => hf b (by simp [hb])) h5, RepRows.prt T hn sz r cs' f' (fun b hb => hf b (by simp [hb])) h6⟩
end
theorem RowAt.uniq {b o : Nat} : ∀ {cs ds : List Value}, cs.length = ds.length → RowAt w b o cs → RowAt w b o ds → cs = ds := by
  intro cs ds hl h k
  apply List.ext_getElem?
  intro j
  by_cases hj : j < cs.length
  · have r1 := h j cs[j] (List.getElem?_eq_getElem hj)
    have r2 := k j ds[j] (List.getElem?_eq_getElem (by omega))
    rw [r1] at r2
    rw [List.getElem?_eq_getElem hj, List.getElem?_eq_getElem (by omega)]; exact r2
  · rw [List.getElem?_eq_none (by omega), List.getElem?_eq_none (by omega)]
mutual
theorem Rep.uniq : ∀ (v : V) (cv : Value) (f f' : List Nat), Rep E w β v cv f → Rep E2 w β2 v cv f' → f = f'
  | .sc _, _, _, _, h, k => by simp only [Rep] at h k; rw [h.2.2, k.2.2]
  | .sl l sz rows, cv, f, f', h, k => by
    simp only [Rep] at h k
    obtain ⟨a, len, cap, cs, f1, rfl, h2, h3, h4, h5, h6⟩ := h
    obtain ⟨a', len', cap', cs', f1', e, k2, k3, k4, k5, k6⟩ := k
    simp only [Value.slice.injEq] at e
    obtain ⟨rfl, rfl, rfl⟩ := e
    cases a with
    | none => simp only [SlOk] at h5 k5; rw [h5.2.2, k5.2.2]
    | some a =>
      simp only [SlOk] at h5 k5
      have hcs : cs = cs' := RowAt.uniq (by rw [h4.len, k4.len]) h5.2.1 k5.2.1
      subst hcs
      rcases h5.2.2.2 with ⟨e1, e2, _⟩ | ⟨e1, e2, _⟩
      · rcases k5.2.2.2 with ⟨_, k7, _⟩ | ⟨e3, _⟩
        · rw [e2, k7, RepRows.uniq sz rows cs f1 f1' h4 k4]
        · exact absurd e1 e3
      · rcases k5.2.2.2 with ⟨e3, _⟩ | ⟨_, k7, _⟩
        · exact absurd e3 e1
        · rw [e2, k7]
  | .ptr _ _, _, _, _, h, k => by simp only [Rep] at h k; rw [h.1, k.1]
  | .clo _ _ _, _, _, _, h, k => by simp only [Rep] at h k; rw [h.1, k.1]
  | .mref _, _, _, _, h, k => by simp only [Rep] at h k; rw [h.1, k.1]
  | .mp .., _, _, _, h, _ => by simp [Rep] at h
  | .dead, _, _, _, h, k => by simp only [Rep] at h k; rw [h, k]
theorem RepRow.uniq : ∀ (r : List V) (cs : List Value) (f f' : List Nat), RepRow E w β r cs f → RepRow E2 w β2 r cs f' → f = f'
  | [], _, _, _, h, k => by simp only [RepRow] at h k; rw [h.2, k.2]
  | v :: r, cs, f, f', h, k => by
    simp only [RepRow] at h k
    obtain ⟨c, cs', g1, g2, rfl, rfl, h3, h4⟩ := h
    obtain ⟨c', cs'', g1', g2', e, rfl, k3, k4⟩ := k
    simp only [List.cons.injEq] at e
    obtain ⟨rfl, rfl⟩ := e
    rw [Rep.uniq v c g1 g1' h3 k3, RepRow.uniq r cs' g2 g2' h4 k4]
theorem RepRows.uniq (sz : Nat) : ∀ (r : List (List V)) (cs : List Value) (f f' : List Nat), RepRows E w β sz r cs f → RepRows E2 w β2 sz r cs f' → f = f'
  | [], _, _, _, h, k => by simp only [RepRows] at h k; rw [h.2, k.2]
  | v :: r, cs, f, f', h, k => by
    simp only [RepRows] at h k
    obtain ⟨c, cs', g1, g2, rfl, rfl, h3, _, h4, h5⟩ := h
    obtain ⟨c', cs'', g1', g2', e, rfl, k3, _, k4, k5⟩ := k
    have hl : c.length = c'.length := by rw [h4.len, k4.len]
    obtain ⟨rfl, rfl⟩ := List.append_inj e hl
    rw [RepRow.uniq v c g1 g1' h4 k4, RepRows.uniq sz r cs' g2 g2' h5 k5]
end
theorem Inv.congr (hI : Inv E w β s tm g) (h : ∀ i, s2.get i = s.get i) : Inv E w β s2 tm g := by
  have hp : ∀ p, s2.place p = s.place p := fun p => place_congr (h p.r)
  have hc : ∀ p, s2.cell p = s.cell p := fun p => cell_congr (h p.r)
  have hal : ∀ p, AlOk s p → AlOk s2 p := fun p ⟨h1, t, v, h2, h3⟩ => ⟨h1, t, v, by rw [h]; exact h2, h3⟩
  have step : ∀ t cv fp, TOk E w β s tm t cv fp → TOk E w β s2 tm t cv fp := fun t cv fp h =>
    TOk.step (Stp.refl E w) (fun _ _ h => h) hal (fun p l sz rows _ hh => by rw [hc] at hh; exact ⟨⟨l, rows, hh, rfl⟩, rfl⟩) (fun p _ _ hh => by rw [hp] at hh; exact ⟨hh, rfl⟩) t cv fp (fun _ _ => rfl) h
  refine ⟨fun i t v hg => ?_, fun i hg => hI.absent i (by rw [← h]; exact hg), hI.own, hI.nodup, hI.disj, fun i b hb => (hI.box i b hb).congr (h i), hI.small⟩
  rw [h] at hg
  have := hI.roots i t v hg
  unfold RootOk at this ⊢
  split
  · rename_i hb; rw [if_pos hb] at this; exact this
  · rename_i hb; rw [if_neg hb] at this; exact step _ _ _ this
end
end Pv

set_option linter.unusedVariables false
set_option linter.unusedSimpArgs false
namespace Pv
open Go
def nodesRow (p : Pl) : Nat → List V → List (Pl × V)
  | _, [] => []
  | k, v :: r => if isOwnSl v then (shift p k, v) :: nodesRow p (k + 1) r else nodesRow p (k + 1) r
noncomputable def Env.call (E : Env) (m : Nat) (cN : Nat → Value) (fN : Nat → List Nat) : Env :=
  open Classical in
  { own := E.own, hdr := fun t => if t < m then cN t else E.hdr (t - m),
    tag := fun b => if (∃ t, t < m ∧ b ∈ fN t) ∨ E.tag b ≠ none then some (fun t => (t < m ∧ b ∈ fN t) ∨ (m ≤ t ∧ ∃ q, E.tag b = some q ∧ q (t - m))) else none }
section
variable {P : Program} {E E2 : Env} {w w2 : World} {β β2 : Nat → Option Nat} {s s2 : St} {tm : Array Value} {g g2 : Nat → List Nat} {cx : Cx} {C : Orc}
theorem call_turn (E : Env) (m : Nat) (cN : Nat → Value) (fN : Nat → List Nat) : Turn E (E.call m cN fN) (fun _ => false) (Lab.up m) := by
  refine ⟨rfl, ?_, ?_, ?_⟩
  · intro l b hl _ h
    have key : ∀ t, (¬ E.own b ∨ ∃ q, E.tag b = some q ∧ q t) → (¬ E.own b ∨ ∃ q, (E.call m cN fN).tag b = some q ∧ q (m + t)) := by
      rintro t (h | ⟨q, h1, h2⟩)
      · exact .inl h
      · refine .inr ⟨fun t => (t < m ∧ b ∈ fN t) ∨ (m ≤ t ∧ ∃ q, E.tag b = some q ∧ q (t - m)), ?_, Or.inr ⟨by omega, q, h1, by rw [Nat.add_sub_cancel_left]; exact h2⟩⟩
        simp only [Env.call]; rw [if_pos]; exact Or.inr (by rw [h1]; simp)
    cases l with
    | own => exact absurd rfl hl
    | ro => exact h
    | lent t => exact key t h
    | part t => exact key t h
  · intro l hl; cases l <;> simp [Lab.up] at hl ⊢
  · intro l t hl _ h
    cases l with
    | lent t' =>
      simp only [Lab.up, Lab.lent.injEq] at h
      subst h
      exact ⟨t', rfl, by simp only [Env.call]; rw [if_neg (by omega), Nat.add_sub_cancel_left]⟩
    | _ => simp [Lab.up] at h
theorem call_tag {m : Nat} {cN : Nat → Value} {fN : Nat → List Nat} {b n : Nat} (hn : n < m) (h : b ∈ fN n) : ∃ q, (E.call m cN fN).tag b = some q ∧ q n :=
  ⟨fun t => (t < m ∧ b ∈ fN t) ∨ (m ≤ t ∧ ∃ q, E.tag b = some q ∧ q (t - m)), by simp only [Env.call]; rw [if_pos]; exact Or.inl ⟨n, hn, h⟩, Or.inl ⟨hn, h⟩⟩
theorem call_none {m : Nat} {cN : Nat → Value} {fN : Nat → List Nat} {b : Nat} (h : ∀ t, t < m → b ∉ fN t) (ht : E.tag b = none) : (E.call m cN fN).tag b = none := by
  simp only [Env.call]
  rw [if_neg]
  rintro (⟨t, h1, h2⟩ | h2)
  · exact h t h1 h2
  · exact h2 ht
theorem RepP.ren {f : Nat → Nat} (v : V) (x : Value) (h : ∀ r ∈ ptrs1 v, β2 (f r) = β r) : RepP β v x → RepP β2 (v.ren0 f) x := by
  cases v <;> simp only [RepP, V.ren0, imp_self]
  · rintro ⟨b, h1, h2⟩
    exact ⟨b, by rw [h _ (by simp [ptrs1])]; exact h1, h2⟩
  · rintro ⟨b, h1, h2⟩
    exact ⟨b, by rw [h _ (by simp [ptrs1])]; exact h1, h2⟩
theorem RepPs.ren {f : Nat → Nat} : ∀ (v : List V) (x : List Value), (∀ r ∈ v.flatMap ptrs1, β2 (f r) = β r) → RepPs β v x → RepPs β2 (v.map (V.ren0 f)) x
  | [], _, _, h => h
  | a :: v, _, hb, ⟨x, vs, h1, h2, h3⟩ => by
    simp only [List.flatMap_cons, List.mem_append] at hb
    exact ⟨x, vs, h1, RepP.ren a x (fun r hr => hb r (.inl hr)) h2, RepPs.ren v vs (fun r hr => hb r (.inr hr)) h3⟩
theorem Rep.ren {f : Nat → Nat} (v : V) (cv : Value) (fp : List Nat) (hb : ∀ r ∈ ptrsV v, β2 (f r) = β r) (h : Rep E w β v cv fp) : Rep E w β2 (v.ren f) cv fp := by
  cases v with
  | ptr r o =>
    simp only [Rep, V.ren] at h ⊢
    exact ⟨h.1, RepP.ren (f := f) (.ptr r o) cv hb h.2⟩
  | mref r =>
    simp only [Rep, V.ren] at h ⊢
    exact ⟨h.1, RepP.ren (f := f) (.mref r) cv hb h.2⟩
  | clo g a b =>
    simp only [Rep, V.ren] at h ⊢
    simp only [ptrsV, List.flatMap_append, List.mem_append] at hb
    obtain ⟨h1, xs, ys, h2, h3, h4⟩ := h
    exact ⟨h1, xs, ys, h2, RepPs.ren a _ (fun r hr => hb r (.inl hr)) h3, RepPs.ren b _ (fun r hr => hb r (.inr hr)) h4⟩
  | _ => exact Rep.beta0 _ _ _ rfl h
theorem RepRow.ren {f : Nat → Nat} : ∀ (v : List V) (cs : List Value) (fp : List Nat), (∀ r ∈ ptrRow v, β2 (f r) = β r) → RepRow E w β v cs fp → RepRow E w β2 (v.map (V.ren f)) cs fp
  | [], _, _, _, h => by simpa [RepRow] using h
  | v :: r, cs, fp, hb, h => by
    simp only [RepRow, List.map_cons] at h ⊢
    simp only [ptrRow, List.flatMap_cons, List.mem_append] at hb
    obtain ⟨c, cs', f1, f', h1, h2, h3, h4⟩ := h
    exact ⟨c, cs', f1, f', h1, h2, Rep.ren v c f1 (fun x hx => hb x (.inl hx)) h3, RepRow.ren r cs' f' (fun x hx => hb x (.inr hx)) h4⟩
theorem ptrs_mapL (φ : Lab → Lab) (v : V) : ptrsV (v.mapL φ) = ptrsV v := by cases v <;> rfl
theorem ptrRow_mapL (φ : Lab → Lab) : ∀ (r : List V), ptrRow (mapLRow φ r) = ptrRow r
  | [] => rfl
  | v :: r => by simp only [mapLRow, ptrRow, List.flatMap_cons, ptrs_mapL]; rw [show (mapLRow φ r).flatMap ptrsV = r.flatMap ptrsV from ptrRow_mapL φ r]
theorem Rep.ro_nil {v : V} {c : Value} (h : Rep E w β v c []) : Rep E w β v.ro c [] := by
  cases v with
  | sl l sz rows =>
    cases l with
    | own =>
      simp only [Rep, V.ro] at h ⊢
      obtain ⟨a, len, cap, cs, f, h1, h2, h3, h4, h5, h6⟩ := h
      cases a with
      | none =>
        simp only [SlOk] at h5
        have hr : rows = [] := List.length_eq_zero_iff.1 (by omega)
        subst hr
        simp only [RepRows] at h4
        exact ⟨none, len, cap, cs, [], h1, by simp only [roRows]; exact h2, h3, by simp [roRows, RepRows, h4.1], by simp only [SlOk]; exact ⟨h5.1, h5.2.1, trivial⟩, by simp⟩
      | some a =>
        simp only [SlOk] at h5
        rcases h5.2.2.2 with ⟨_, e, _⟩ | ⟨e, _⟩
        · simp at e
        · exact absurd rfl e
    | _ => exact h
  | _ => exact h
theorem RepRow.ro_nil : ∀ {r : List V} {cs : List Value}, RepRow E w β r cs [] → RepRow E w β (roRow r) cs []
  | [], _, h => by simpa [RepRow, roRow] using h
  | v :: r, cs, h => by
    simp only [RepRow, roRow] at h ⊢
    obtain ⟨c, cs', f1, f2, h1, h2, h3, h4⟩ := h
    obtain ⟨rfl, rfl⟩ := nil_of_append h2
    exact ⟨c, cs', [], [], h1, rfl, h3.ro_nil, RepRow.ro_nil h4⟩
def HCell (E : Env) (w : World) (β : Nat → Option Nat) (s : St) (tm : Array Value) (p : Option Pl) (k : Nat) (v : V) (c : Value) : Prop :=
  (v.noOwn = true ∧ Rep E w β v c []) ∨ v = .dead ∨ (isOwnSl v = true ∧ ∃ p', p = some p' ∧ s.cell (shift p' k) = some v ∧ plVal w β tm (shift p' k) = some c)
structure HdOk (E : Env) (w : World) (β : Nat → Option Nat) (s : St) (tm : Array Value) (h : List V × Bool × Option Pl) (cv : Value) : Prop where
  says : ∃ cs : List Value, cellsAre h.2.1 cv cs ∧ cs.length = h.1.length ∧ ∀ k v c, h.1[k]? = some v → cs[k]? = some c → HCell E w β s tm h.2.2 k v c
  one : h.2.1 = false → h.1.length = 1
theorem hcell_of {p : Option Pl} {k : Nat} {v : V} {c : Value} {f : List Nat} (h : Rep E w β v c f) (hp : isOwnSl v = true → ∃ p', p = some p' ∧ s.cell (shift p' k) = some v ∧ plVal w β tm (shift p' k) = some c) : HCell E w β s tm p k v c := by
  by_cases hn : v.noOwn = true
  · have := noOwn_fp hn h
    subst this; exact .inl ⟨hn, h⟩
  · by_cases hd : v = .dead
    · exact .inr (.inl hd)
    · obtain ⟨sz, rows, rfl⟩ := own_of (by simpa using hn) hd h
      exact .inr (.inr ⟨rfl, hp rfl⟩)
theorem one_cell {cv c : Value} {k : Nat} (h : ([cv] : List Value)[k]? = some c) : k = 0 ∧ cv = c := by
  cases k with
  | zero => simpa using h
  | succ k => simp at h
theorem hand_ok (hI : Inv E w β s tm g) {x : Operand} {X : O} {h : List V × Bool × Option Pl} (hx : OpdOk x X) (hh : s.hand X = some h) : HdOk E w β s tm h (ev tm x) ∧ (∀ p, h.2.2 = some p → AlOk s p) := by
  unfold St.hand at hh
  split at hh
  · rename_i v i hv
    obtain rfl := Option.some.inj hh
    obtain ⟨fp, h1, h2⟩ := opd_tok hI hx hv
    rcases h2 with ⟨j, e, rfl, hi, rfl⟩ | ⟨⟨y, e⟩, _⟩
    case inr => simp at e
    obtain rfl : i = j := by simpa using e
    simp only [St.opv] at hv
    split at hv
    case h_2 => simp at hv
    rename_i y hy
    obtain ⟨t0, n0⟩ := y
    simp only [Option.some.injEq] at hv; subst hv
    refine ⟨⟨⟨[ev tm (.tmp i)], by simp [cellsAre], rfl, fun k v' c hk hc => ?_⟩, fun _ => rfl⟩, ?_⟩
    · obtain ⟨rfl, rfl⟩ := one_cell hc
      obtain rfl : v = v' := by simpa using hk
      simp only [TOk] at h1
      refine hcell_of h1 (fun ho => ⟨_, rfl, by rw [shift_zero]; exact cell_tmp hy, ?_⟩)
      rw [shift_zero]
      refine plVal_tmp hi (by rw [cvOf_low hi]; rfl) (fun a e => ?_)
      rw [e] at h1
      rw [h1.notAgg] at ho; simp [isOwnSl] at ho
    · intro p hp
      obtain rfl := Option.some.inj hp
      exact alOk_tmp hi hy
  · rename_i r i hv
    obtain rfl := Option.some.inj hh
    obtain ⟨fp, h1, h2⟩ := opd_tok hI hx hv
    rcases h2 with ⟨j, e, rfl, hi, rfl⟩ | ⟨⟨y, e⟩, _⟩
    case inr => simp at e
    obtain rfl : i = j := by simpa using e
    simp only [St.opv] at hv
    split at hv
    case h_2 => simp at hv
    rename_i y hy
    obtain ⟨t0, n0⟩ := y
    simp only [Option.some.injEq] at hv; subst hv
    simp only [TOk] at h1
    obtain ⟨cs, e1, hrep⟩ := h1
    refine ⟨⟨⟨cs.toList, by simp [cellsAre, e1], hrep.len, fun k v c hk hc => ?_⟩, by simp⟩, ?_⟩
    · obtain ⟨c1, c', c2, f1, gq, f2, m1, m2, m3, m4, _, _⟩ := hrep.at hk
      have : c = c' := by rw [m1, ← m3] at hc; simpa using hc.symm
      subst this
      refine hcell_of m4 (fun _ => ⟨_, rfl, cell_row hy hk, ?_⟩)
      have hcv : cvOf tm i = .agg cs := by rw [cvOf_low hi]; exact e1
      simp only [plVal, Pl.ofTmp, shift, topVal, isBox_low hi, Bool.false_eq_true, if_false, hcv, Nat.zero_add]
      exact hc
    · intro p hp
      obtain rfl := Option.some.inj hp
      exact alOk_tmp hi hy
  · rename_i v y hv
    obtain rfl := Option.some.inj hh
    obtain ⟨fp, h1, h2⟩ := opd_tok hI hx hv
    rcases h2 with ⟨j, e, _⟩ | ⟨_, rfl⟩
    · simp at e
    simp only [TOk] at h1
    refine ⟨⟨⟨[ev tm x], by simp [cellsAre], rfl, fun k v' c hk hc => ?_⟩, fun _ => rfl⟩, by simp⟩
    obtain ⟨rfl, rfl⟩ := one_cell hc
    obtain rfl : v.ro = v' := by simpa using hk
    have := h1.ro_nil
    refine hcell_of this (fun ho => ?_)
    exfalso
    have hf : isOwnSl v.ro = false := by
      cases v with
      | sl l sz rows => cases l <;> rfl
      | _ => rfl
    rw [hf] at ho; simp at ho
  · rename_i r y hv
    obtain rfl := Option.some.inj hh
    obtain ⟨fp, h1, h2⟩ := opd_tok hI hx hv
    rcases h2 with ⟨j, e, _⟩ | ⟨_, rfl⟩
    · simp at e
    simp only [TOk] at h1
    obtain ⟨cs, e1, hrep⟩ := h1
    have hrep := hrep.ro_nil
    refine ⟨⟨⟨cs.toList, by simp [cellsAre, e1], hrep.len, fun k v c hk hc => ?_⟩, by simp⟩, by simp⟩
    obtain ⟨c1, c', c2, f1, gq, f2, m1, m2, m3, m4, _, _⟩ := hrep.at hk
    have : c = c' := by rw [m1, ← m3] at hc; simpa using hc.symm
    subst this
    refine hcell_of m4 (fun ho => ?_)
    exfalso
    obtain ⟨a, _, ha⟩ := ro_get hk
    have hf : isOwnSl a.ro = false := by
      cases a with
      | sl l sz rows => cases l <;> rfl
      | _ => rfl
    rw [ha, hf] at ho; simp at ho
  · rename_i p hv
    split at hh
    case h_2 => simp at hh
    rename_i v hc
    obtain rfl := Option.some.inj hh
    obtain ⟨fp, h1, _⟩ := opd_tok hI hx hv
    simp only [TOk] at h1
    obtain ⟨_, hal, hsay⟩ := h1
    refine ⟨⟨⟨[ev tm x], by simp [cellsAre], rfl, fun k v' c hk hcc => ?_⟩, fun _ => rfl⟩, fun p' hp => by obtain rfl := Option.some.inj hp; exact hal⟩
    obtain ⟨rfl, rfl⟩ := one_cell hcc
    obtain rfl : v.alv = v' := by simpa using hk
    by_cases hd : v.alv = .dead
    · exact .inr (.inl hd)
    obtain ⟨e, l, sz, rows, rfl⟩ := alv_of hd
    rw [e]
    have hpv := hsay l sz rows hc
    obtain ⟨c', f, k1, k2, _⟩ := cell_rep hI hc (by simp)
    rw [hpv] at k1
    obtain rfl := Option.some.inj k1
    exact hcell_of k2 (fun _ => ⟨p, rfl, by rw [shift_zero]; exact hc, by rw [shift_zero]; exact hpv⟩)
  · rename_i p n hv
    split at hh
    case h_2 => simp at hh
    rename_i r hm
    obtain rfl := Option.some.inj hh
    unfold St.merge at hm
    split at hm
    case h_2 => simp at hm
    rename_i q hq
    obtain rfl := Option.some.inj hm
    obtain ⟨fp, h1, _⟩ := opd_tok hI hx hv
    simp only [TOk] at h1
    obtain ⟨_, hal, cs, e, hl, hk⟩ := h1
    obtain ⟨ds, f, k1, k2, k3, k4, k5⟩ := cells_rep hI hq
    refine ⟨⟨⟨cs.toList, by simp [cellsAre, e], by simp [hl, mergeRow_len (r := n) (q := q) k2], fun k v c hkv hc => ?_⟩, by simp⟩, fun p' hp => by obtain rfl := Option.some.inj hp; exact hal⟩
    obtain ⟨a, b, m1, m2, m3⟩ := mergeRow_get hkv
    have := hk k a c m1 hc
    split at m3
    · rename_i ha
      subst m3
      rw [if_pos ha] at this; exact .inl ⟨ha, this⟩
    · rename_i ha
      rw [if_neg ha] at this
      by_cases hd : v = .dead
      · exact .inr (.inl hd)
      · rw [m3] at hd
        obtain ⟨e2, l, sz, rows, rfl⟩ := alv_of hd
        rw [e2] at m3
        subst m3
        have hsay := this l sz rows (k5 k _ m2)
        obtain ⟨c1, c', c2, f1, gq, f2, q1, q2, q3, q4, _, _⟩ := k1.at m2
        have hpl := k4 k _ m2 (by simp)
        rw [show p.at k = shift p k from rfl, hpl] at hsay
        have hcc : c = c' := by rw [q1, ← q3] at hsay; simpa using hsay.symm
        subst hcc
        exact hcell_of q4 (fun _ => ⟨p, rfl, k5 k _ m2, by rw [hpl]; exact hsay⟩)
  · simp at hh
end
end Pv

set_option linter.unusedVariables false
set_option linter.unusedSimpArgs false
namespace Pv
open Go
def dflPl : Pl := ⟨0, 0, [], 0⟩
def nodesAll : List (List V × Bool × Option Pl) → List (Pl × V)
  | [] => []
  | (r, _, p) :: hs => nodesRow (p.getD dflPl) 0 r ++ nodesAll hs
theorem nOwn_cons (v : V) (r : List V) : nOwn (v :: r) = if isOwnSl v then nOwn r + 1 else nOwn r := by
  cases v with
  | sl l sz rows => cases l <;> rfl
  | _ => rfl
theorem lendRow_cons (m n : Nat) (v : V) (r : List V) : lendRow m n (v :: r) = if isOwnSl v then (match v with | .sl _ sz rows => V.sl (.lent n) sz (prtRows m n rows) | v => v) :: lendRow m (n + 1) r else v.up m :: lendRow m n r := by
  cases v with
  | sl l sz rows => cases l <;> rfl
  | _ => rfl
theorem nodesRow_len (p : Pl) : ∀ (r : List V) (k : Nat), (nodesRow p k r).length = nOwn r
  | [], _ => rfl
  | v :: r, k => by
    rw [nOwn_cons]
    simp only [nodesRow]
    split
    · simp only [List.length_cons]; rw [nodesRow_len p r]
    · exact nodesRow_len p r _
theorem nodesAll_len : ∀ (hs : List (List V × Bool × Option Pl)), (nodesAll hs).length = (hs.map fun h => nOwn h.1).sum
  | [] => rfl
  | (r, ag, p) :: hs => by simp [nodesAll, nodesRow_len, nodesAll_len hs]
theorem nodesRow_get (p : Pl) : ∀ (r : List V) (k j : Nat) (x : Pl × V), (nodesRow p k r)[j]? = some x → ∃ i, r[i]? = some x.2 ∧ x.1 = shift p (k + i) ∧ isOwnSl x.2 = true
  | [], _, _, _, h => by simp [nodesRow] at h
  | v :: r, k, j, x, h => by
    simp only [nodesRow] at h
    split at h
    · rename_i hv
      cases j with
      | zero =>
        simp only [List.getElem?_cons_zero, Option.some.injEq] at h
        subst h
        exact ⟨0, rfl, rfl, hv⟩
      | succ j =>
        obtain ⟨i, h1, h2, h3⟩ := nodesRow_get p r (k + 1) j x (by simpa using h)
        exact ⟨i + 1, by simpa using h1, by rw [h2]; congr 1; omega, h3⟩
    · obtain ⟨i, h1, h2, h3⟩ := nodesRow_get p r (k + 1) j x h
      exact ⟨i + 1, by simpa using h1, by rw [h2]; congr 1; omega, h3⟩
def BRow (E : Env) (w : World) (β : Nat → Option Nat) (j : Nat) (row : List V) (f : List Nat) : Prop := match row with
  | [.mp ka va ks vs] => ∃ b es clk, β (610000 + j) = some b ∧ f = [b] ∧ w.heap[b]? = some (.map es clk) ∧ b < w.heap.size ∧ Ents ka va ks vs es.toList
  | row => ∃ b cs f0, β (10000 + j) = some b ∧ f = b :: f0 ∧ RepRow E w β row cs f0 ∧ RowAt w b 0 cs ∧ Clean w b cs.length ∧ b < w.heap.size
def IRow (E : Env) (w : World) (β : Nat → Option Nat) (ag : Bool) (cv : Value) (row : List V) (f : List Nat) : Prop := ∃ cs, cellsAre ag cv cs ∧ RepRow E w β row cs f ∧ (ag = false → row.length = 1)
def T.isMp : List V → Bool
  | [.mp ..] => true
  | _ => false
structure BdIn (E : Env) (w : World) (β : Nat → Option Nat) (io : List Nat) (args : List T) (ext : List (List V)) (cvs : Array Value) (F : List (List Nat)) : Prop where
  nargs : cvs.size = args.length
  nF : F.length = ext.length
  nio : io.length ≤ ext.length
  few : ext.length - io.length ≤ 1000
  ioDup : io.Nodup
  arg : ∀ i t, args[i]? = some t → i ∉ io → ∃ cv, cvs[i]? = some cv ∧ t.solid = true ∧ TOk E w β [] #[] t cv []
  box : ∀ j row f, j < ext.length - io.length → ext[j]? = some row → F[j]? = some f → BRow E w β j row f
  ios : ∀ k i row f, io[k]? = some i → ext[ext.length - io.length + k]? = some row → F[ext.length - io.length + k]? = some f → ∃ t cv, args[i]? = some t ∧ cvs[i]? = some cv ∧ IRow E w β t.isAgg cv row f
  nd : F.flatten.Nodup
  own : ∀ b ∈ F.flatten, E.own b ∧ E.tag b = none ∧ b < w.heap.size
  small : ∀ b, w.heap.size ≤ b → E.tag b = none
  only : ∀ r b, β r = some b → ∃ j row, j < ext.length - io.length ∧ ext[j]? = some row ∧ r = extAt j row
def RRes (E : Env) (w : World) (β : Nat → Option Nat) (t : T) (cv : Value) (fts : List (List Nat)) : Prop := match t with
  | .tup ts => ∃ vs : Array Value, cv = .tuple vs ∧ vs.size = ts.length ∧ fts.length = ts.length ∧ ts.length ≤ 100 ∧ ts.all T.solid = true ∧
      ∀ (i : Nat) (t : T) (v : Value) (f : List Nat), ts[i]? = some t → vs[i]? = some v → fts[i]? = some f → TOk E w β [] #[] t v f
  | t => ∃ f, fts = [f] ∧ t.solid = true ∧ TOk E w β [] #[] t cv f
structure BdOut (E : Env) (w : World) (β : Nat → Option Nat) (io : List Nat) (args : List T) (ext : List (List V)) (cvs : Array Value) (F : List (List Nat)) (t : T) (ext2 : List (List V)) (cv : Value)
    (E2 : Env) (w2 : World) (β2 : Nat → Option Nat) (F2 fts : List (List Nat)) : Prop where
  nF : F2.length = ext2.length
  next : ext2.length = ext.length ∨ ext2.length = ext.length + 1
  wf : Wf w w2
  size : w.heap.size ≤ w2.heap.size
  same : ∀ b, b < w.heap.size → b ∉ F.flatten → w2.heap[b]? = w.heap[b]? ∧ (E2.own b ↔ E.own b)
  shr : ∀ b, b < w.heap.size → E2.own b → E.own b
  tag : E2.tag = E.tag
  hdr : E2.hdr = E.hdr
  sub : ∀ b ∈ (F2 ++ fts).flatten, b ∈ F.flatten ∨ w.heap.size ≤ b
  nd : (F2 ++ fts).flatten.Nodup
  own : ∀ b ∈ (F2 ++ fts).flatten, E2.own b ∧ E2.tag b = none ∧ b < w2.heap.size
  exts : ∀ j row, j < ext.length - io.length → ext[j]? = some row → β2 (extAt j row) = β (extAt j row)
  box : ∀ j row row0 f, j < ext.length - io.length → ext[j]? = some row0 → ext2[j]? = some row → F2[j]? = some f → BRow E2 w2 β2 j row f ∧ T.isMp row = T.isMp row0
  ios : ∀ k i row f, io[k]? = some i → ext2[ext.length - io.length + k]? = some row → F2[ext.length - io.length + k]? = some f → ∃ t cv, args[i]? = some t ∧ cvs[i]? = some cv ∧ IRow E2 w2 β2 t.isAgg cv row f
  new : ∀ row f, ext2[ext.length]? = some row → F2[ext.length]? = some f → BRow E2 w2 β2 10000 row f ∧ T.isMp row = false
  only : ∀ r b, β2 r = some b → (∃ j row, j < ext.length - io.length ∧ ext[j]? = some row ∧ r = extAt j row) ∨ (r = 20000 ∧ ext2.length = ext.length + 1)
  res : RRes E2 w2 β2 t cv fts
def FnOk (P : Program) (f : Nat) : Prop := ∃ fn, P.funcs[f]? = some fn ∧ fn.name ≠ "runtime.NumGoroutine" ∧ fn.body.isSome
def SoundC (P : Program) (C : Orc) : Prop := ∀ f io args ext t ext2, C f io args ext = some (t, ext2) → FnOk P f ∧
  ∀ E w β cvs F, BdIn E w β io args ext cvs F → Calls P f cvs w fun e w2 => ∃ cv E2 β2 F2 fts, e = .returned cv ∧ BdOut E w β io args ext cvs F t ext2 cv E2 w2 β2 F2 fts
section
variable {P : Program} {E E2 : Env} {w w2 : World} {β β2 : Nat → Option Nat} {s s2 : St} {tm : Array Value} {g g2 : Nat → List Nat} {cx : Cx} {C : Orc}
theorem Rep.lend {m n : Nat} (T : Turn E E2 (fun _ => false) (Lab.up m)) {sz : Nat} {rows : List (List V)} {c : Value} {f : List Nat} (hn : ∀ b ∈ f, ∃ q, E2.tag b = some q ∧ q n) (hh : E2.hdr n = c)
    (h : Rep E w β (.sl .own sz rows) c f) : Rep E2 w β (.sl (.lent n) sz (prtRows m n rows)) c [] := by
  have := Rep.prt T hn (.sl .own sz rows) c f (fun _ h => h) h
  simp only [V.prt, Rep] at this ⊢
  obtain ⟨a, len, cap, cs, f', h1, h2, h3, h4, h5, _⟩ := this
  refine ⟨a, len, cap, cs, f', h1, h2, h3, h4, ?_, ?_⟩
  · cases a with
    | none => exact h5
    | some a =>
      simp only [SlOk] at h5 ⊢
      obtain ⟨k1, k2, k3, k4⟩ := h5
      refine ⟨k1, k2, k3, ?_⟩
      rcases k4 with ⟨e, _⟩ | ⟨_, k5, k6, k7⟩
      · simp at e
      · exact .inr ⟨by simp, k5, k6, k7⟩
  · intro t ht
    simp only [Lab.lent.injEq] at ht
    subst ht; exact hh
theorem view_row {m : Nat} {cN : Nat → Value} {fN : Nat → List Nat} {p : Option Pl} : ∀ (r : List V) (cs : List Value) (k n : Nat), cs.length = r.length →
    (∀ j v c, r[j]? = some v → cs[j]? = some c → HCell E w β s tm p (k + j) v c) → n + nOwn r ≤ m →
    (∀ j (x : Pl × V), (nodesRow (p.getD dflPl) k r)[j]? = some x → plVal w β tm x.1 = some (cN (n + j)) ∧ Rep E w β x.2 (cN (n + j)) (fN (n + j))) →
    RepRow (E.call m cN fN) w β (lendRow m n r) cs []
  | [], [], k, n, _, _, _, _ => by simp [lendRow, RepRow]
  | [], _ :: _, _, _, hl, _, _, _ => by simp at hl
  | _ :: _, [], _, _, hl, _, _, _ => by simp at hl
  | v :: r, c :: cs, k, n, hl, hc, hm, hN => by
    have h0 := hc 0 v c rfl rfl
    have T := call_turn E m cN fN
    rw [lendRow_cons]
    rw [nOwn_cons] at hm
    simp only [nodesRow] at hN
    by_cases hv : isOwnSl v = true
    · rw [if_pos hv] at hm ⊢
      rw [if_pos hv] at hN
      have ih := view_row (m := m) (cN := cN) (fN := fN) (p := p) r cs (k + 1) (n + 1) (by simpa using hl) (fun j v c h1 h2 => by
          have := hc (j + 1) v c (by simpa using h1) (by simpa using h2)
          rwa [show k + (j + 1) = k + 1 + j from by omega] at this) (by omega) (fun j x hx => by
          have := hN (j + 1) x (by simpa using hx)
          rwa [show n + (j + 1) = n + 1 + j from by omega] at this)
      obtain ⟨q1, q2⟩ := hN 0 _ rfl
      simp only [Nat.add_zero] at q1 q2
      have hcn : cN n = c := by
        rcases h0 with ⟨e, _⟩ | e | ⟨_, p', e1, _, e3⟩
        · cases v with
          | sl l sz rows => cases l <;> simp [isOwnSl, V.noOwn] at hv e
          | _ => simp [isOwnSl] at hv
        · rw [e] at hv; simp [isOwnSl] at hv
        · rw [e1] at q1
          simp only [Option.getD_some, Nat.add_zero] at q1 e3
          rw [e3] at q1
          exact (Option.some.inj q1).symm
      cases v with
      | sl l sz rows =>
        cases l <;> simp [isOwnSl] at hv
        simp only [RepRow]
        refine ⟨c, cs, [], [], rfl, rfl, ?_, ih⟩
        rw [hcn] at q2
        exact Rep.lend T (fun b hb => call_tag (m := m) (n := n) (by omega) hb) (by simp only [Env.call]; rw [if_pos (by omega), hcn]) q2
      | _ => simp [isOwnSl] at hv
    · rw [if_neg hv] at hm ⊢
      rw [if_neg hv] at hN
      have ih := view_row (m := m) (cN := cN) (fN := fN) (p := p) r cs (k + 1) n (by simpa using hl) (fun j v c h1 h2 => by
          have := hc (j + 1) v c (by simpa using h1) (by simpa using h2)
          rwa [show k + (j + 1) = k + 1 + j from by omega] at this) (by omega) hN
      simp only [RepRow]
      refine ⟨c, cs, [], [], rfl, rfl, ?_, ih⟩
      rcases h0 with ⟨_, e⟩ | e | ⟨e, _⟩
      · exact Rep.mapL T v c [] (anyL_none v) e
      · subst e; simp [V.up, V.mapL, Rep]
      · exact absurd e hv
theorem mkT_solid' {r : List V} {ag : Bool} {t : T} {cv : Value} {cs : List Value} {f : List Nat} (h : mkT r ag = some t) (hc : cellsAre ag cv cs) (hr : RepRow E w β r cs f) : t.solid = true ∧ TOk E w β [] #[] t cv f ∧ t.isAgg = ag := by
  refine ⟨mkT_solid h, (mkT_tok (s := []) (tm := #[]) h hc hr).1, ?_⟩
  unfold mkT at h
  split at h
  · rename_i e; obtain rfl := Option.some.inj h; rw [e]; rfl
  · rename_i e
    split at h
    · obtain rfl := Option.some.inj h; simp at e; rw [e]; rfl
    · simp at h
end
end Pv

set_option linter.unusedVariables false
set_option linter.unusedSimpArgs false
namespace Pv
open Go
def T.still : T → Bool
  | .one _ => true
  | .agg _ => true
  | .mp .. => true
  | _ => false
section
variable {P : Program} {E E2 : Env} {w w2 : World} {β β2 : Nat → Option Nat} {s s2 : St} {tm : Array Value} {g g2 : Nat → List Nat} {cx : Cx} {C : Orc}
theorem tok_still {t : T} {cv : Value} {f : List Nat} (h : t.still = true) {s2 : St} {tm2 : Array Value} (k : TOk E w β s tm t cv f) : TOk E w β s2 tm2 t cv f := by
  cases t <;> simp [T.still] at h
  · exact k
  · exact k
  · exact k
def RootS (E : Env) (w : World) (β : Nat → Option Nat) (tm : Array Value) (i : Nat) (t : T) (f : List Nat) : Prop :=
  if isBox i then ∃ b cs f0 row, β i = some b ∧ t = .agg row ∧ f = b :: f0 ∧ RepRow E w β row cs f0 ∧ RowAt w b 0 cs ∧ Clean w b cs.length ∧ b < w.heap.size
  else TOk E w β [] #[] t (cvOf tm i) f ∧ t.still = true
theorem Inv.swap (hI : Inv E w β s tm g) (hs : Stp E w E2 w2) {s1 : St} {g1 : Nat → List Nat} {H : Nat → Prop}
    (h1 : ∀ i, ¬ H i → s1.get i = s.get i ∧ g1 i = g i) (hsame : ∀ i, ¬ H i → ∀ x ∈ g i, w2.heap[x]? = w.heap[x]? ∧ E2.own x)
    (h2 : ∀ i, H i → ∃ t v t1 v1, s.get i = some (t, v) ∧ s1.get i = some (t1, v1) ∧ v < v1 ∧ RootS E2 w2 β tm i t1 (g1 i) ∧ (∀ r ka va ks vs, t = .mp r ka va ks vs → ∃ ka va ks vs, t1 = .mp i ka va ks vs))
    (own1 : ∀ i, H i → ∀ b ∈ g1 i, E2.own b ∧ E2.tag b = none ∧ b < w2.heap.size) (nd1 : ∀ i, H i → (g1 i).Nodup) (dis1 : ∀ i j, i ≠ j → H i → ∀ b ∈ g1 i, b ∉ g1 j)
    (hsmall : ∀ b, w2.heap.size ≤ b → E2.tag b = none) : Inv E2 w2 β s1 tm g1 := by
  have hplace : ∀ p x, AlOk s p → s1.place p = some x → ¬ H p.r ∧ s.place p = some x := by
    rintro p x ⟨hlt, t0, v0, hg0, hv0⟩ hp
    by_cases hH : H p.r
    · obtain ⟨t, v, t1, v1, q1, q2, q3, _⟩ := h2 p.r hH
      obtain ⟨t', row, k1, _, _⟩ := place_some hp
      rw [q2] at k1
      rw [q1] at hg0
      simp only [Option.some.injEq, Prod.mk.injEq] at k1 hg0
      omega
    · exact ⟨hH, by rw [← place_congr (h1 p.r hH).1]; exact hp⟩
  have stepT : ∀ t' cv' fp, (∀ x ∈ fp, w2.heap[x]? = w.heap[x]?) → TOk E w β s tm t' cv' fp → TOk E2 w2 β s1 tm t' cv' fp := by
    intro t' cv' fp hf h
    refine TOk.step hs (fun _ _ h => h) ?_ ?_ ?_ t' cv' fp hf h
    · rintro p ⟨hlt, t0, v0, hg0, hv0⟩
      refine ⟨hlt, ?_⟩
      by_cases hH : H p.r
      · obtain ⟨t, v, t1, v1, q1, q2, q3, _⟩ := h2 p.r hH
        rw [q1] at hg0
        simp only [Option.some.injEq, Prod.mk.injEq] at hg0
        exact ⟨t1, v1, q2, by omega⟩
      · exact ⟨t0, v0, by rw [(h1 _ hH).1]; exact hg0, hv0⟩
    · intro p l sz rows hal hc
      obtain ⟨r1, o1, hp, hcell⟩ := cell_place hc
      obtain ⟨hH, hp'⟩ := hplace p _ hal hp
      refine ⟨⟨l, rows, ?_, rfl⟩, (hI.val_same (fun _ _ h => h) hp' (fun b hb => (hsame _ hH b hb).1) (fun _ => rfl)).1⟩
      unfold St.cell; rw [hp']; exact hcell
    · intro p hal _ hp
      obtain ⟨x, hp2⟩ := Option.isSome_iff_exists.1 hp
      obtain ⟨hH, hp'⟩ := hplace p _ hal hp2
      exact ⟨by rw [hp']; rfl, (hI.val_same (fun _ _ h => h) hp' (fun b hb => (hsame _ hH b hb).1) (fun _ => rfl)).2⟩
  refine ⟨?_, ?_, ?_, ?_, ?_, ?_, hsmall⟩
  · intro i t v hg
    by_cases hH : H i
    · obtain ⟨t0, v0, t1, v1, q1, q2, q3, q4, _⟩ := h2 i hH
      rw [q2] at hg
      simp only [Option.some.injEq, Prod.mk.injEq] at hg
      obtain ⟨rfl, _⟩ := hg
      unfold RootS at q4
      unfold RootOk
      split
      · rename_i hb; rw [if_pos hb] at q4; exact q4
      · rename_i hb; rw [if_neg hb] at q4; exact tok_still q4.2 q4.1
    · obtain ⟨e1, e2⟩ := h1 i hH
      rw [e1] at hg
      rw [e2]
      have h := hI.roots i t v hg
      unfold RootOk at h ⊢
      split
      · rename_i hb
        rw [if_pos hb] at h
        obtain ⟨b, cs, f, row, k1, k2, k3, k4, k5, k6, k7⟩ := h
        have hgb := (hsame i hH b (by rw [k3]; simp)).1
        exact ⟨b, cs, f, row, k1, k2, k3, k4.frame hs (fun _ _ h => h) _ _ _ (fun x hx => (hsame i hH x (by rw [k3]; simp [hx])).1), k5.same hgb, k6.same hgb, Nat.lt_of_lt_of_le k7 hs.size⟩
      · rename_i hb
        rw [if_neg hb] at h
        exact stepT _ _ _ (fun x hx => (hsame i hH x hx).1) h
  · intro i hg
    by_cases hH : H i
    · obtain ⟨t0, v0, t1, v1, q1, q2, _⟩ := h2 i hH
      rw [q2] at hg; simp at hg
    · obtain ⟨e1, e2⟩ := h1 i hH
      rw [e2]; exact hI.absent i (by rw [← e1]; exact hg)
  · intro i b hb
    by_cases hH : H i
    · exact own1 i hH b hb
    · rw [(h1 i hH).2] at hb
      have := hI.own i b hb
      exact ⟨(hsame i hH b hb).2, by rw [hs.tag b this.2.2]; exact this.2.1, Nat.lt_of_lt_of_le this.2.2 hs.size⟩
  · intro i
    by_cases hH : H i
    · exact nd1 i hH
    · rw [(h1 i hH).2]; exact hI.nodup i
  · intro i j hij b hb hb2
    by_cases hH : H i
    · exact dis1 i j hij hH b hb hb2
    · by_cases hH2 : H j
      · exact dis1 j i (fun e => hij e.symm) hH2 b hb2 hb
      · rw [(h1 i hH).2] at hb
        rw [(h1 j hH2).2] at hb2
        exact hI.disj i j hij b hb hb2
  · intro i b hb
    have h := hI.box i b hb
    by_cases hH : H i
    · obtain ⟨t0, v0, t1, v1, q1, q2, _, _, q5⟩ := h2 i hH
      refine ⟨?_, by rw [q2]; rfl⟩
      rcases h.1 with h | ⟨h3, ka, va, ks, vs, v, h4⟩
      · exact .inl h
      · rw [q1] at h4
        simp only [Option.some.injEq, Prod.mk.injEq] at h4
        obtain ⟨ka', va', ks', vs', e⟩ := q5 _ _ _ _ _ h4.1
        exact .inr ⟨h3, ka', va', ks', vs', v1, by rw [q2, e]⟩
    · exact h.congr (h1 i hH).1
theorem set_shift {xs : List V} : ∀ (q : List (Nat × Nat × Nat)) (st : Nat × Nat × Nat) (row row2 r : List V) (off k o : Nat), setRow row off (shiftPath (st :: q) k) xs = some row2 → getRow row off (st :: q) = some (r, o) →
    getRow row2 off (st :: q) = some (splice r (o + k) xs, o)
  | [], (i, sz, o1), row, row2, r, off, k, o, hs, hg => by
    simp only [shiftPath, setRow] at hs
    split at hs
    case h_2 => simp at hs
    rename_i sz' rows hrow
    split at hs
    case isFalse => simp at hs
    rename_i hsz
    split at hs
    case h_2 => simp at hs
    rename_i r0 hi
    split at hs
    case h_2 => simp at hs
    rename_i r1 hr1
    obtain rfl := Option.some.inj hs
    simp only [getRow, hrow, hi, if_pos hsz, Option.some.injEq, Prod.mk.injEq] at hg
    obtain ⟨rfl, rfl⟩ := hg
    split at hr1
    case isFalse => simp at hr1
    obtain rfl := Option.some.inj hr1
    have hoff := (List.getElem?_eq_some_iff.1 hrow).1
    have hil := (List.getElem?_eq_some_iff.1 hi).1
    subst hsz
    simp only [getRow, List.getElem?_set_self hoff, List.getElem?_set_self hil, if_true]
  | st2 :: q, (i, sz, o1), row, row2, r, off, k, o, hs, hg => by
    simp only [shiftPath] at hs
    rw [setRow] at hs
    rw [getRow] at hg
    split at hs
    case h_2 => simp at hs
    rename_i sz' rows hrow
    split at hs
    case isFalse => simp at hs
    rename_i hsz
    split at hs
    case h_2 => simp at hs
    rename_i r0 hi
    split at hs
    case h_2 => simp at hs
    rename_i r1 hr1
    obtain rfl := Option.some.inj hs
    rw [hrow] at hg
    simp only [hi, if_pos hsz] at hg
    have hoff := (List.getElem?_eq_some_iff.1 hrow).1
    have hil := (List.getElem?_eq_some_iff.1 hi).1
    subst hsz
    rw [getRow]
    simp only [List.getElem?_set_self hoff, List.getElem?_set_self hil, if_true]
    exact set_shift q st2 r0 r1 r o1 k o hr1 hg
theorem splice_ne {r : List V} {a j : Nat} {x : V} (h : j ≠ a) (hl : a < r.length) : (splice r a [x])[j]? = r[j]? := by
  simp only [splice, List.length_singleton]
  by_cases h1 : j < a
  · rw [List.getElem?_append_left (by simp; omega), List.getElem?_append_left (by simp; omega), List.getElem?_take_of_lt h1]
  · rw [List.getElem?_append_right (by simp; omega), List.getElem?_drop]
    congr 1
    simp only [List.length_append, List.length_take, List.length_singleton]
    omega
theorem put_get {p : Pl} {xs : List V} {u : Upd} (h : s.put p xs false = some u) : ∃ t row row2, s.get p.r = some (t, p.ver) ∧ t.row? = some row ∧ setRow row p.off p.path xs = some row2 ∧ u = [(p.r, t.back row2, p.ver)] ∧
    (s.upd u).get p.r = some (t.back row2, p.ver) ∧ ∀ i, i ≠ p.r → (s.upd u).get i = s.get i := by
  unfold St.put at h
  split at h
  case h_2 => simp at h
  rename_i t v hg
  split at h
  case isFalse => simp at h
  rename_i hv
  subst hv
  split at h
  case h_2 => simp at h
  rename_i row hr
  split at h
  case h_2 => simp at h
  rename_i row2 hs
  simp only [Bool.false_eq_true, if_false, Option.some.injEq] at h
  subst h
  refine ⟨t, row, row2, hg, hr, hs, rfl, ?_, ?_⟩
  · simp only [St.upd]; exact get_set_same _ _ _
  · intro i hi
    simp only [St.upd]; exact get_set_ne _ _ (fun e => hi e.symm)
theorem put_beside {p : Pl} {k k' : Nat} {x : V} {u : Upd} (h : s.put (shift p k) [x] false = some u) (hne : k' ≠ k) {v : V} (hc : s.cell (shift p k') = some v) : (s.upd u).cell (shift p k') = some v := by
  obtain ⟨t, row, row2, h1, h2, h3, _, h5, _⟩ := put_get h
  obtain ⟨q1, q2⟩ := shift_r p k
  rw [q1] at h1 h5
  rw [q2] at h1 h5
  have hl := setRow_len h3
  obtain ⟨r1, o1, hp1, hc1⟩ := cell_place hc
  have hpl : ∃ x, s.place p = some x := by
    have := place_unshift (s := s) (p := p) (k := k') (by rw [hp1]; rfl)
    exact Option.isSome_iff_exists.1 this
  obtain ⟨⟨r, o⟩, hp⟩ := hpl
  have hpk := place_shift hp k'
  rw [hp1] at hpk
  simp only [Option.some.injEq, Prod.mk.injEq] at hpk
  obtain ⟨rfl, rfl⟩ := hpk
  obtain ⟨t', row', g1, g2, g3⟩ := place_some hp
  rw [h1] at g1
  simp only [Option.some.injEq, Prod.mk.injEq, and_true] at g1
  subst g1
  rw [h2] at g2
  obtain rfl := Option.some.inj g2
  have hnew : (s.upd u).place p = some (splice r1 (o + k) [x], o) ∧ o + k < r1.length := by
    obtain ⟨pr, off, path, ver⟩ := p
    cases path with
    | nil =>
      simp only [getRow, Option.some.injEq, Prod.mk.injEq] at g3
      obtain ⟨rfl, rfl⟩ := g3
      simp only [shift, setRow] at h3
      split at h3
      case isFalse => simp at h3
      rename_i hfit
      obtain rfl := Option.some.inj h3
      exact ⟨place_mk (t := t.back (splice row (off + k) [x])) h5 (back_row h2 hl) (by simp [getRow]), by have := hfit; simp only [List.length_singleton] at this; omega⟩
    | cons st q =>
      simp only [shift] at h3
      refine ⟨place_mk h5 (back_row h2 hl) (set_shift q st row row2 r1 off k o h3 g3), ?_⟩
      have hgs := getRow_shift q st row off k r1 o g3
      apply Classical.byContradiction
      intro hlt
      have hput : ∀ (path : List (Nat × Nat × Nat)) (row : List V) (off : Nat) (row2 : List V), setRow row off path [x] = some row2 → ∀ r o, getRow row off path = some (r, o) → o < r.length := by
        intro path
        induction path with
        | nil =>
          intro row off row2 hs r o hg
          simp only [getRow, Option.some.injEq, Prod.mk.injEq] at hg
          obtain ⟨rfl, rfl⟩ := hg
          simp only [setRow] at hs
          split at hs
          · rename_i hf; simp only [List.length_singleton] at hf; omega
          · simp at hs
        | cons st q ih =>
          intro row off row2 hs r o hg
          obtain ⟨i, sz, o1⟩ := st
          rw [setRow] at hs
          rw [getRow] at hg
          split at hs
          case h_2 => simp at hs
          rename_i sz' rows hrow
          split at hs
          case isFalse => simp at hs
          rename_i hsz
          split at hs
          case h_2 => simp at hs
          rename_i r0 hi
          split at hs
          case h_2 => simp at hs
          rename_i r1 hr1
          rw [hrow] at hg
          simp only [hi, if_pos hsz] at hg
          exact ih _ _ _ hr1 _ _ hg
      exact hlt (hput _ _ _ _ h3 _ _ hgs)
  have := place_shift hnew.1 k'
  unfold St.cell
  rw [this]
  simp only []
  rw [splice_ne (by omega) hnew.2]
  exact hc1
structure Stl (E : Env) (s : St) (g : Nat → List Nat) (E2 : Env) (s2 : St) (g2 : Nat → List Nat) (r : Nat) : Prop where
  tag : E2.tag = E.tag
  hdr : E2.hdr = E.hdr
  shr : ∀ b, E2.own b → E.own b
  keep : ∀ b, E.own b → b ∉ g r → E2.own b
  get : ∀ i, i ≠ r → s2.get i = s.get i
  ger : (s2.get r).isSome = (s.get r).isSome
  oth : ∀ i, i ≠ r → g2 i = g i
  sub : ∀ b, b ∈ g2 r → b ∈ g r
theorem Stl.refl (E : Env) (s : St) (g : Nat → List Nat) (r : Nat) : Stl E s g E s g r := ⟨rfl, rfl, fun _ h => h, fun _ h _ => h, fun _ _ => rfl, rfl, fun _ _ => rfl, fun _ h => h⟩
theorem Stl.trans {E3 : Env} {s3 : St} {g3 : Nat → List Nat} {r : Nat} (h : Stl E s g E2 s2 g2 r) (k : Stl E2 s2 g2 E3 s3 g3 r) : Stl E s g E3 s3 g3 r :=
  ⟨k.tag.trans h.tag, k.hdr.trans h.hdr, fun b hb => h.shr b (k.shr b hb), fun b hb hn => k.keep b (h.keep b hb hn) (fun h2 => hn (h.sub b h2)), fun i hi => (k.get i hi).trans (h.get i hi), k.ger.trans h.ger,
    fun i hi => (k.oth i hi).trans (h.oth i hi), fun b hb => h.sub b (k.sub b hb)⟩
theorem settle_node (hI : Inv E w β s tm g) {p : Pl} {c : Value} {out : Bool} {v : V} (hpl : plVal w β tm p = some c) (h : settleNode s p out = some (s2, v)) :
    ∃ E2 g2 f, Inv E2 w β s2 tm g2 ∧ Stl E s g E2 s2 g2 p.r ∧ s.cell p = some v ∧ Rep E w β v c f ∧ Rep E2 w β v c f ∧ isOwnSl v = true ∧ (g p.r).Perm (f ++ g2 p.r) ∧
      (out = false → ∀ b ∈ f, ¬ E2.own b) ∧ (out = true → ∀ b, E.own b → E2.own b) ∧ ∃ u x, s.put p [x] false = some u ∧ s2 = s.upd u := by
  unfold settleNode at h
  split at h
  case h_2 => simp at h
  rename_i sz rows hc
  split at h
  case h_2 => simp at h
  rename_i u hu
  simp only [Option.some.injEq, Prod.mk.injEq] at h
  obtain ⟨rfl, rfl⟩ := h
  obtain ⟨t, row, row2, h1, h2, h3, h4, h5, h6⟩ := put_get hu
  obtain ⟨c', f, k1, k2, k3⟩ := cell_rep hI hc (by simp)
  rw [hpl] at k1
  obtain rfl := Option.some.inj k1
  obtain ⟨r0, o0, hp0, hc0⟩ := cell_place hc
  obtain ⟨t', row', g1, g2', g3⟩ := place_some hp0
  rw [h1] at g1
  simp only [Option.some.injEq, Prod.mk.injEq, and_true] at g1
  subst g1
  rw [h2] at g2'
  obtain rfl := Option.some.inj g2'
  have hxs : ∀ (k : Nat) (x : V), [if out then V.dead else (V.sl .own sz rows).ro][k]? = some x → x.noOwn = true ∨ x = .dead := by
    intro k x hk
    cases k with
    | succ k => simp at hk
    | zero =>
      simp only [List.getElem?_cons_zero, Option.some.injEq] at hk
      subst hk
      cases out
      · exact .inl rfl
      · exact .inr rfl
  obtain ⟨r', o', cS, fS, m1, m2, m3, m4, m5, m6, m7, m8⟩ := hI.lower h1 h2 h3 hxs (by
      intro _; cases out <;> rfl) (by
      intro r o k l sz' rows' hg hk
      cases k with
      | succ k => simp at hk
      | zero =>
        simp only [List.getElem?_cons_zero, Option.some.injEq] at hk
        cases out with
        | true => simp at hk
        | false =>
          simp only [Bool.false_eq_true, if_false, V.ro, V.sl.injEq] at hk
          obtain ⟨rfl, rfl, rfl⟩ := hk
          rw [g3] at hg
          simp only [Option.some.injEq, Prod.mk.injEq] at hg
          obtain ⟨rfl, rfl⟩ := hg
          exact ⟨.own, rows, by simpa using hc0, (roRows_len rows).symm⟩)
  rw [g3] at m1
  simp only [Option.some.injEq, Prod.mk.injEq] at m1
  obtain ⟨rfl, rfl⟩ := m1
  have hlt := (List.getElem?_eq_some_iff.1 hc0).1
  have hone : (r0.drop o0).take [if out then V.dead else (V.sl .own sz rows).ro].length = [.sl .own sz rows] := by
    rw [List.length_singleton, List.drop_eq_getElem_cons hlt]
    simp [(List.getElem?_eq_some_iff.1 hc0).2]
  rw [hone] at m3 m6
  simp only [RepRow] at m3
  obtain ⟨c1, cs', f1, f2, rfl, rfl, n1, rfl, rfl⟩ := m3
  have hc1 := m6 0 _ rfl (by simp)
  rw [shift_zero, hpl] at hc1
  simp only [List.getElem?_cons_zero, Option.some.injEq] at hc1
  subst hc1
  obtain rfl := Rep.uniq _ _ _ _ k2 n1
  rw [List.append_nil] at m4 m5 m8
  cases out with
  | true =>
    simp only [if_true] at m8 hu h3
    obtain ⟨fp2, e1, e2⟩ := m8 [] (by simp) (by simp only [RepRow, Rep]; exact ⟨c, [], [], [], rfl, rfl, rfl, rfl, rfl⟩)
    refine ⟨E.minus [], _, f, (by rw [h4]; simp only [St.upd]; exact e1), ⟨rfl, rfl, fun b hb => hb.1, fun b hb _ => ⟨hb, by simp⟩, h6, by rw [h5, h1]; rfl, fun i hi => by simp [hi], ?_⟩, hc, k2, k2.frame (Stp.minus E w []) (fun _ _ h => h) _ _ _ (fun _ _ => rfl), rfl, by simpa using e2, by simp, fun _ b hb => ⟨hb, by simp⟩, u, _, hu, rfl⟩
    intro b hb
    simp only [if_true] at hb
    exact (e2.mem_iff).2 (List.mem_append.2 (.inr hb))
  | false =>
    simp only [Bool.false_eq_true, if_false] at m8 hu h3
    obtain ⟨fp2, e1, e2⟩ := m8 f (fun x hx => hx) (by
      simp only [RepRow]
      exact ⟨c, [], [], [], rfl, rfl, Rep.toRo (rel := f) _ _ _ (fun _ h => h) k2, rfl, rfl⟩)
    refine ⟨E.minus f, _, f, (by rw [h4]; simp only [St.upd]; exact e1), ⟨rfl, rfl, fun b hb => hb.1, fun b hb hn => ⟨hb, fun hbf => hn (k3 b hbf)⟩, h6, by rw [h5, h1]; rfl, fun i hi => by simp [hi], ?_⟩, hc, k2, k2.frame (Stp.minus E w f) (fun _ _ h => h) _ _ _ (fun _ _ => rfl), rfl, by simpa using e2, fun _ b hb h => h.2 hb, by simp, u, _, hu, rfl⟩
    intro b hb
    simp only [if_true] at hb
    exact (e2.mem_iff).2 (List.mem_append.2 (.inr hb))
end
end Pv

set_option linter.unusedVariables false
set_option linter.unusedSimpArgs false
namespace Pv
open Go
structure StlR (E : Env) (s : St) (g : Nat → List Nat) (E2 : Env) (s2 : St) (g2 : Nat → List Nat) (R : Nat → Prop) : Prop where
  tag : E2.tag = E.tag
  hdr : E2.hdr = E.hdr
  shr : ∀ b, E2.own b → E.own b
  keep : ∀ b, E.own b → (∀ r, R r → b ∉ g r) → E2.own b
  get : ∀ i, ¬ R i → s2.get i = s.get i
  ger : ∀ i, (s2.get i).isSome = (s.get i).isSome
  oth : ∀ i, ¬ R i → g2 i = g i
  sub : ∀ i b, b ∈ g2 i → b ∈ g i
section
variable {P : Program} {E E2 : Env} {w w2 : World} {β β2 : Nat → Option Nat} {s s2 : St} {tm : Array Value} {g g2 : Nat → List Nat} {cx : Cx} {C : Orc}
theorem StlR.refl (E : Env) (s : St) (g : Nat → List Nat) (R : Nat → Prop) : StlR E s g E s g R := ⟨rfl, rfl, fun _ h => h, fun _ h _ => h, fun _ _ => rfl, fun _ => rfl, fun _ _ => rfl, fun _ _ h => h⟩
theorem Stl.toR {r : Nat} (h : Stl E s g E2 s2 g2 r) {R : Nat → Prop} (hr : R r) : StlR E s g E2 s2 g2 R :=
  ⟨h.tag, h.hdr, h.shr, fun b hb hn => h.keep b hb (hn r hr), fun i hi => h.get i (fun e => hi (e ▸ hr)), fun i => by
    by_cases e : i = r
    · rw [e]; exact h.ger
    · rw [h.get i e], fun i hi => h.oth i (fun e => hi (e ▸ hr)), fun i b hb => by
    by_cases e : i = r
    · subst e; exact h.sub b hb
    · rw [h.oth i e] at hb; exact hb⟩
theorem StlR.trans {E3 : Env} {s3 : St} {g3 : Nat → List Nat} {R : Nat → Prop} (h : StlR E s g E2 s2 g2 R) (k : StlR E2 s2 g2 E3 s3 g3 R) : StlR E s g E3 s3 g3 R :=
  ⟨k.tag.trans h.tag, k.hdr.trans h.hdr, fun b hb => h.shr b (k.shr b hb), fun b hb hn => k.keep b (h.keep b hb hn) (fun r hr h2 => hn r hr (h.sub r b h2)), fun i hi => (k.get i hi).trans (h.get i hi), fun i => (k.ger i).trans (h.ger i),
    fun i hi => (k.oth i hi).trans (h.oth i hi), fun i b hb => h.sub i b (k.sub i b hb)⟩
theorem StlR.mono {R R2 : Nat → Prop} (h : StlR E s g E2 s2 g2 R) (hr : ∀ i, R i → R2 i) : StlR E s g E2 s2 g2 R2 :=
  ⟨h.tag, h.hdr, h.shr, fun b hb hn => h.keep b hb (fun r hr' => hn r (hr r hr')), fun i hi => h.get i (fun e => hi (hr i e)), h.ger, fun i hi => h.oth i (fun e => hi (hr i e)), h.sub⟩
theorem StlR.stp {R : Nat → Prop} (h : StlR E s g E2 s2 g2 R) : Stp E w E2 w := ⟨Nat.le_refl _, fun b _ hn => ⟨rfl, fun h2 => hn (h.shr b h2)⟩, fun _ _ _ => rfl, fun b _ => by rw [h.tag], h.hdr⟩
structure Back (E : Env) (w : World) (β : Nat → Option Nat) (cN : Nat → Value) (tops : List V) (lo hi : Nat) (back : List (Nat × V)) (fB : List (List Nat)) : Prop where
  len : back.length = fB.length
  ok : ∀ (i : Nat) (x : Nat × V) (f : List Nat), back[i]? = some x → fB[i]? = some f → lo ≤ x.1 ∧ x.1 < hi ∧ lentIn x.1 tops = 1 ∧ partIn x.1 tops = false ∧ Rep E w β x.2 (cN x.1) f ∧ x.2.noPtr = true
  keys : (back.map (·.1)).Nodup
  nd : fB.flatten.Nodup
theorem Back.nil (E : Env) (w : World) (β : Nat → Option Nat) (cN : Nat → Value) (tops : List V) (lo hi : Nat) : Back E w β cN tops lo hi [] [] := ⟨rfl, by simp, by simp, by simp⟩
theorem settleRow_cons (mv : Bool) (tops : List V) (p : Pl) (s : St) (n k : Nat) (v : V) (r : List V) : settleRow mv tops p s n k (v :: r) = if isOwnSl v then
      (if lentIn n tops = 0 ∧ partIn n tops = false then settleRow mv tops p s (n + 1) (k + 1) r else
        match settleNode s (shift p k) (mv && decide (lentIn n tops = 1) && !partIn n tops) with
        | some (s1, v) => (match settleRow mv tops p s1 (n + 1) (k + 1) r with
          | some (s', back) => some (s', if mv && decide (lentIn n tops = 1) && !partIn n tops then (n, v) :: back else back)
          | none => none)
        | none => none)
      else settleRow mv tops p s n (k + 1) r := by
  cases v with
  | sl l sz rows => cases l <;> rfl
  | _ => rfl
theorem Back.up {cN : Nat → Value} {tops : List V} {lo lo2 hi : Nat} {back : List (Nat × V)} {fB : List (List Nat)} (h : Back E w β cN tops lo2 hi back fB) (hl : lo ≤ lo2) : Back E w β cN tops lo hi back fB :=
  ⟨h.len, fun i x f h1 h2 => by
    obtain ⟨k1, k2⟩ := h.ok i x f h1 h2
    exact ⟨Nat.le_trans hl k1, k2⟩, h.keys, h.nd⟩
theorem Back.world {cN : Nat → Value} {tops : List V} {lo hi : Nat} {back : List (Nat × V)} {fB : List (List Nat)} (h : Back E w β cN tops lo hi back fB) (hs : Stp E w E2 w) : Back E2 w β cN tops lo hi back fB :=
  ⟨h.len, fun i x f h1 h2 => by
    obtain ⟨k1, k2, k3, k4, k5, k6⟩ := h.ok i x f h1 h2
    exact ⟨k1, k2, k3, k4, k5.frame hs (fun _ _ h => h) _ _ _ (fun _ _ => rfl), k6⟩, h.keys, h.nd⟩
theorem settle_row {mv : Bool} {tops : List V} {p : Pl} {cN : Nat → Value} {fN : Nat → List Nat} : ∀ (r : List V) (n k : Nat) (E : Env) (s : St) (g : Nat → List Nat) {s2 : St} {back : List (Nat × V)}, Inv E w β s tm g →
    settleRow mv tops p s n k r = some (s2, back) →
    (∀ j (x : Pl × V), (nodesRow p k r)[j]? = some x → s.cell x.1 = some x.2 ∧ plVal w β tm x.1 = some (cN (n + j)) ∧ ∃ E0 β0, Rep E0 w β0 x.2 (cN (n + j)) (fN (n + j))) →
    ∃ E2 g2 fB, Inv E2 w β s2 tm g2 ∧ StlR E s g E2 s2 g2 (· = p.r) ∧ Back E2 w β cN tops n (n + nOwn r) back fB ∧ (∀ b ∈ fB.flatten, E2.own b ∧ b ∈ g p.r ∧ b ∉ g2 p.r) ∧
      (∀ t, n ≤ t → t < n + nOwn r → (lentIn t tops ≠ 0 ∨ partIn t tops = true) → (∀ x ∈ back, x.1 ≠ t) → ∀ b ∈ fN t, ¬ E2.own b)
  | [], n, k, E, s, g, s2, back, hI, h, hN => by
    simp only [settleRow, Option.some.injEq, Prod.mk.injEq] at h
    obtain ⟨rfl, rfl⟩ := h
    exact ⟨E, g, [], hI, StlR.refl _ _ _ _, Back.nil _ _ _ _ _ _ _, by simp, fun t h1 h2 => by simp [nOwn] at h2; omega⟩
  | v :: r, n, k, E, s, g, s2, back, hI, h, hN => by
    rw [settleRow_cons] at h
    rw [nOwn_cons]
    by_cases hv : isOwnSl v = true
    · rw [if_pos hv] at h ⊢
      simp only [nodesRow, if_pos hv] at hN
      obtain ⟨n1, n2, E0, β0, n3⟩ := hN 0 _ rfl
      simp only [Nat.add_zero] at n1 n2 n3
      split at h
      · rename_i hz
        obtain ⟨E2, g2, fB, k1, k2, k3, k4, k5⟩ := settle_row r (n + 1) (k + 1) E s g hI h (fun j x hx => by
          have := hN (j + 1) x (by simpa using hx)
          rwa [show n + (j + 1) = n + 1 + j from by omega] at this)
        refine ⟨E2, g2, fB, k1, k2, ?_, k4, fun t h1 h2 h3 h4 => ?_⟩
        · have := k3.up (lo := n) (by omega)
          rwa [show n + 1 + nOwn r = n + (nOwn r + 1) from by omega] at this
        · by_cases ht : t = n
          · subst ht
            rcases h3 with h3 | h3
            · exact absurd hz.1 h3
            · rw [hz.2] at h3; simp at h3
          · exact k5 t (by omega) (by omega) h3 h4
      · rename_i hz
        split at h
        case h_2 => simp at h
        rename_i s1 v1 hset
        split at h
        case h_2 => simp at h
        rename_i s3 back3 hrest
        simp only [Option.some.injEq, Prod.mk.injEq] at h
        obtain ⟨rfl, rfl⟩ := h
        obtain ⟨E1, g1, f, q1, q2, q3, q4, q5, q6, q7, q8, q9, u, x0, q10, rfl⟩ := settle_node hI n2 hset
        rw [n1] at q3
        obtain rfl := Option.some.inj q3
        obtain rfl : f = fN n := Rep.uniq _ _ _ _ q4 n3
        rw [(shift_r p k).1] at q2 q7
        obtain ⟨E2, g2, fB, k1, k2, k3, k4, k5⟩ := settle_row r (n + 1) (k + 1) E1 (s.upd u) g1 q1 hrest (fun j x hx => by
          obtain ⟨i, e1, e2, e3⟩ := nodesRow_get p r (k + 1) j x hx
          have := hN (j + 1) x (by simpa using hx)
          rw [show n + (j + 1) = n + 1 + j from by omega] at this
          refine ⟨?_, this.2.1, this.2.2⟩
          rw [e2]
          refine put_beside q10 (by omega) ?_
          rw [← e2]; exact this.1)
        have hst : Stp E1 w E2 w := k2.stp
        have hnd := hI.nodup p.r
        rw [q7.nodup_iff, List.nodup_append] at hnd
        have hfg : ∀ b ∈ fN n, b ∈ g p.r := fun b hb => (q7.mem_iff).2 (List.mem_append.2 (.inl hb))
        have hfn : ∀ b ∈ fN n, b ∉ g1 p.r := fun b hb hb2 => hnd.2.2 b hb b hb2 rfl
        by_cases hout : (mv && decide (lentIn n tops = 1) && !partIn n tops) = true
        · rw [if_pos hout]
          simp only [Bool.and_eq_true, decide_eq_true_eq, Bool.not_eq_true'] at hout
          have hout' : (mv && decide (lentIn n tops = 1) && !partIn n tops) = true := by simp [hout]
          refine ⟨E2, g2, fN n :: fB, k1, (q2.toR (R := (· = p.r)) rfl).trans k2, ⟨by simp [k3.len], ?_, ?_, ?_⟩, ?_, ?_⟩
          · intro i x f h1 h2
            cases i with
            | zero =>
              simp only [List.getElem?_cons_zero, Option.some.injEq] at h1 h2
              subst h1; subst h2
              refine ⟨Nat.le_refl _, by simp only []; omega, hout.1.2, hout.2, q5.frame hst (fun _ _ h => h) _ _ _ (fun _ _ => rfl), ?_⟩
              cases v with
              | sl l sz rows => rfl
              | _ => simp [isOwnSl] at hv
            | succ i =>
              obtain ⟨m1, m2, m3⟩ := k3.ok i x f (by simpa using h1) (by simpa using h2)
              exact ⟨by omega, by omega, m3⟩
          · simp only [List.map_cons, List.nodup_cons]
            refine ⟨?_, k3.keys⟩
            intro hm
            obtain ⟨y, hy, e⟩ := List.mem_map.1 hm
            obtain ⟨i, hi⟩ := List.getElem?_of_mem hy
            obtain ⟨f, hf⟩ : ∃ f, fB[i]? = some f := by
              have := (List.getElem?_eq_some_iff.1 hi).1
              exact ⟨fB[i]'(by rw [← k3.len]; exact this), by simp⟩
            have := (k3.ok i y f hi hf).1
            omega
          · simp only [List.flatten_cons]
            rw [List.nodup_append]
            exact ⟨hnd.1, k3.nd, fun a ha b hb e => hfn a ha (by rw [e]; exact (k4 b hb).2.1)⟩
          · intro b hb
            simp only [List.flatten_cons] at hb
            rcases List.mem_append.1 hb with hb | hb
            · refine ⟨k2.keep b (q9 hout' b (hI.own _ _ (hfg b hb)).1) (fun r hr => by rw [hr]; exact hfn b hb), hfg b hb, fun h2 => hfn b hb (k2.sub _ b h2)⟩
            · obtain ⟨m1, m2, m3⟩ := k4 b hb
              exact ⟨m1, q2.sub b m2, m3⟩
          · intro t h1 h2 h3 h4
            by_cases ht : t = n
            · exact absurd ht.symm (h4 (n, v) (by simp))
            · exact k5 t (by omega) (by omega) h3 (fun x hx => h4 x (by simp [hx]))
        · rw [if_neg hout]
          refine ⟨E2, g2, fB, k1, (q2.toR (R := (· = p.r)) rfl).trans k2, ?_, ?_, ?_⟩
          · have := k3.up (lo := n) (by omega)
            rwa [show n + 1 + nOwn r = n + (nOwn r + 1) from by omega] at this
          · intro b hb
            obtain ⟨m1, m2, m3⟩ := k4 b hb
            exact ⟨m1, q2.sub b m2, m3⟩
          · intro t h1 h2 h3 h4
            by_cases ht : t = n
            · subst ht
              intro b hb ho
              exact q8 (by simpa using hout) b hb (k2.shr b ho)
            · exact k5 t (by omega) (by omega) h3 h4
    · rw [if_neg hv] at h ⊢
      simp only [nodesRow, if_neg hv] at hN
      exact settle_row r n (k + 1) E s g hI h hN
theorem lentRoots_cons (r : List V) (ag : Bool) (p : Option Pl) (hs : List (List V × Bool × Option Pl)) : lentRoots ((r, ag, p) :: hs) = (if nOwn r = 0 then [] else match p with | some p => [p.r] | none => [0]) ++ lentRoots hs := rfl
theorem nodes_root : ∀ (hs : List (List V × Bool × Option Pl)) (j : Nat) (x : Pl × V), (nodesAll hs)[j]? = some x → x.1.r ∈ lentRoots hs
  | [], j, x, hx => by simp [nodesAll] at hx
  | (r0, ag0, p0) :: hs, j, x, hx => by
    simp only [nodesAll] at hx
    rw [lentRoots_cons, List.mem_append]
    by_cases hj : j < (nodesRow (p0.getD dflPl) 0 r0).length
    · rw [List.getElem?_append_left hj] at hx
      left
      have hne : nOwn r0 ≠ 0 := by rw [nodesRow_len] at hj; omega
      rw [if_neg hne]
      obtain ⟨i, _, e2, _⟩ := nodesRow_get _ _ _ _ _ hx
      cases p0 with
      | some p0 => simp only [Option.getD_some] at e2; rw [e2, (shift_r p0 _).1]; simp
      | none => simp only [Option.getD_none] at e2; rw [e2, (shift_r dflPl _).1]; simp [dflPl]
    · rw [List.getElem?_append_right (by omega)] at hx
      exact .inr (nodes_root hs _ x hx)
theorem settle_all {mv : Bool} {tops : List V} {cN : Nat → Value} {fN : Nat → List Nat} : ∀ (hs : List (List V × Bool × Option Pl)) (n : Nat) (E : Env) (s : St) (g : Nat → List Nat) {s2 : St} {back : List (Nat × V)}, Inv E w β s tm g →
    settleAll mv tops s n hs = some (s2, back) → (lentRoots hs).Nodup →
    (∀ j (x : Pl × V), (nodesAll hs)[j]? = some x → s.cell x.1 = some x.2 ∧ plVal w β tm x.1 = some (cN (n + j)) ∧ ∃ E0 β0, Rep E0 w β0 x.2 (cN (n + j)) (fN (n + j))) →
    ∃ E2 g2 fB, Inv E2 w β s2 tm g2 ∧ StlR E s g E2 s2 g2 (· ∈ lentRoots hs) ∧ Back E2 w β cN tops n (n + (nodesAll hs).length) back fB ∧ (∀ b ∈ fB.flatten, E2.own b ∧ (∃ r ∈ lentRoots hs, b ∈ g r) ∧ ∀ i, b ∉ g2 i) ∧
      (∀ t, n ≤ t → t < n + (nodesAll hs).length → (lentIn t tops ≠ 0 ∨ partIn t tops = true) → (∀ x ∈ back, x.1 ≠ t) → ∀ b ∈ fN t, ¬ E2.own b)
  | [], n, E, s, g, s2, back, hI, h, hnd, hN => by
    simp only [settleAll, Option.some.injEq, Prod.mk.injEq] at h
    obtain ⟨rfl, rfl⟩ := h
    exact ⟨E, g, [], hI, StlR.refl _ _ _ _, Back.nil _ _ _ _ _ _ _, by simp, fun t h1 h2 => by simp [nodesAll] at h2; omega⟩
  | (r, ag, p) :: hs, n, E, s, g, s2, back, hI, h, hnd, hN => by
    simp only [settleAll] at h
    rw [lentRoots_cons] at hnd
    split at h
    · rename_i hz
      rw [if_pos hz, List.nil_append] at hnd
      have hnil : nodesRow (p.getD dflPl) 0 r = [] := List.length_eq_zero_iff.1 (by rw [nodesRow_len, hz])
      simp only [nodesAll, hnil, List.nil_append] at hN ⊢
      rw [lentRoots_cons, if_pos hz, List.nil_append]
      exact settle_all hs n E s g hI h hnd hN
    · rename_i hz
      split at h
      · simp at h
      rename_i p
      split at h
      case h_2 => simp at h
      rename_i s1 b1 hrow
      split at h
      case h_2 => simp at h
      rename_i s3 b3 hall
      simp only [Option.some.injEq, Prod.mk.injEq] at h
      obtain ⟨rfl, rfl⟩ := h
      rw [if_neg hz] at hnd
      simp only [List.singleton_append, List.nodup_cons] at hnd
      simp only [nodesAll, Option.getD_some] at hN ⊢
      rw [lentRoots_cons, if_neg hz]
      simp only [List.singleton_append]
      have hlen : (nodesRow p 0 r).length = nOwn r := nodesRow_len p r 0
      obtain ⟨E1, g1, f1, k1, k2, k3, k4, k5⟩ := settle_row (cN := cN) (fN := fN) r n 0 E s g hI hrow (fun j (x : Pl × V) hx => hN j x (by
        have hj : j < (nodesRow p 0 r).length := (List.getElem?_eq_some_iff.1 hx).1
        rw [List.getElem?_append_left hj]; exact hx))
      have hroots := nodes_root hs
      obtain ⟨E2, g2, f2, m1, m2, m3, m4, m5⟩ := settle_all (cN := cN) (fN := fN) hs (n + nOwn r) E1 s1 g1 k1 hall hnd.2 (fun j (x : Pl × V) hx => by
        have := hN ((nodesRow p 0 r).length + j) x (by rw [List.getElem?_append_right (by omega), Nat.add_sub_cancel_left]; exact hx)
        rw [hlen, ← Nat.add_assoc] at this
        refine ⟨?_, this.2.1, this.2.2⟩
        have hr : x.1.r ≠ p.r := fun e => hnd.1 (by rw [← e]; exact hroots j x hx)
        rw [cell_congr (k2.get _ hr)]; exact this.1)
      have hnp : ∀ i, i ∈ lentRoots hs → i ≠ p.r := fun i hi e => hnd.1 (by rw [← e]; exact hi)
      refine ⟨E2, g2, f1 ++ f2, m1, (k2.mono (by intro i h; simp [h])).trans (m2.mono (fun i hi => List.mem_cons_of_mem _ hi)), ⟨?_, ?_, ?_, ?_⟩, ?_, ?_⟩
      · simp [k3.len, m3.len]
      · intro i x f h1 h2
        by_cases hi : i < b1.length
        · rw [List.getElem?_append_left hi] at h1
          rw [List.getElem?_append_left (by rw [← k3.len]; exact hi)] at h2
          obtain ⟨z1, z2, z3, z4, z5, z6⟩ := k3.ok i x f h1 h2
          exact ⟨z1, by rw [List.length_append, hlen]; omega, z3, z4, z5.frame m2.stp (fun _ _ h => h) _ _ _ (fun _ _ => rfl), z6⟩
        · rw [List.getElem?_append_right (by omega)] at h1
          rw [List.getElem?_append_right (by rw [← k3.len]; omega), ← k3.len] at h2
          obtain ⟨z1, z2, z3⟩ := m3.ok _ x f h1 h2
          exact ⟨by omega, by rw [List.length_append, hlen]; omega, z3⟩
      · rw [List.map_append, List.nodup_append]
        refine ⟨k3.keys, m3.keys, ?_⟩
        intro a ha b hb e
        obtain ⟨x, hx, rfl⟩ := List.mem_map.1 ha
        obtain ⟨y, hy, rfl⟩ := List.mem_map.1 hb
        obtain ⟨i, hi⟩ := List.getElem?_of_mem hx
        obtain ⟨j, hj⟩ := List.getElem?_of_mem hy
        have z1 := (k3.ok i x _ hi (List.getElem?_eq_getElem (by rw [← k3.len]; exact (List.getElem?_eq_some_iff.1 hi).1))).2.1
        have z2 := (m3.ok j y _ hj (List.getElem?_eq_getElem (by rw [← m3.len]; exact (List.getElem?_eq_some_iff.1 hj).1))).1
        omega
      · rw [List.flatten_append, List.nodup_append]
        refine ⟨k3.nd, m3.nd, ?_⟩
        intro a ha b hb e
        obtain ⟨_, z1, z2⟩ := k4 a ha
        obtain ⟨_, ⟨r', z3, z4⟩, _⟩ := m4 b hb
        rw [k2.oth _ (hnp r' z3)] at z4
        exact hI.disj r' p.r (hnp r' z3) b z4 (by rw [← e]; exact z1)
      · intro b hb
        rw [List.flatten_append, List.mem_append] at hb
        rcases hb with hb | hb
        · obtain ⟨z1, z2, z3⟩ := k4 b hb
          refine ⟨m2.keep b z1 (fun r' hr' h => ?_), ⟨p.r, by simp, z2⟩, fun i hi => ?_⟩
          · rw [k2.oth _ (hnp r' hr')] at h
            exact hI.disj r' p.r (hnp r' hr') b h z2
          · have hi1 := m2.sub i b hi
            by_cases e : i = p.r
            · rw [e] at hi1; exact z3 hi1
            · rw [k2.oth i e] at hi1
              exact hI.disj i p.r e b hi1 z2
        · obtain ⟨z1, ⟨r', z2, z3⟩, z4⟩ := m4 b hb
          exact ⟨z1, ⟨r', List.mem_cons_of_mem _ z2, by rw [k2.oth _ (hnp r' z2)] at z3; exact z3⟩, z4⟩
      · intro t h1 h2 h3 h4
        rw [List.length_append, hlen] at h2
        by_cases ht : t < n + nOwn r
        · intro b hb ho
          exact k5 t h1 ht h3 (fun x hx => h4 x (List.mem_append.2 (.inl hx))) b hb (m2.shr b ho)
        · exact m5 t (by omega) (by omega) h3 (fun x hx => h4 x (List.mem_append.2 (.inr hx)))
end
end Pv

set_option linter.unusedVariables false
set_option linter.unusedSimpArgs false
namespace Pv
open Go
mutual
theorem anyL_mono {q q' : Lab → Bool} (h : ∀ l, q l = true → q' l = true) : ∀ (v : V), v.anyL q = true → v.anyL q' = true
  | .sl l sz rows, hv => by
    simp only [V.anyL, Bool.or_eq_true] at hv ⊢
    exact hv.imp (h l) (anyLRows_mono h rows)
  | .sc _, hv => by simp [V.anyL] at hv
  | .ptr .., hv => by simp [V.anyL] at hv
  | .clo .., hv => by simp [V.anyL] at hv
  | .mref _, hv => by simp [V.anyL] at hv
  | .mp .., hv => by simp [V.anyL] at hv
  | .dead, hv => by simp [V.anyL] at hv
theorem anyLRow_mono {q q' : Lab → Bool} (h : ∀ l, q l = true → q' l = true) : ∀ (r : List V), anyLRow q r = true → anyLRow q' r = true
  | [], hv => by simp [anyLRow] at hv
  | v :: r, hv => by
    simp only [anyLRow, Bool.or_eq_true] at hv ⊢
    exact hv.imp (anyL_mono h v) (anyLRow_mono h r)
theorem anyLRows_mono {q q' : Lab → Bool} (h : ∀ l, q l = true → q' l = true) : ∀ (r : List (List V)), anyLRows q r = true → anyLRows q' r = true
  | [], hv => by simp [anyLRows] at hv
  | v :: r, hv => by
    simp only [anyLRows, Bool.or_eq_true] at hv ⊢
    exact hv.imp (anyLRow_mono h v) (anyLRows_mono h r)
end
mutual
theorem anyL_ex {q : Lab → Bool} : ∀ (v : V), v.anyL q = true → ∃ l, q l = true ∧ v.anyL (fun l' => l' == l) = true
  | .sl l sz rows, hv => by
    simp only [V.anyL, Bool.or_eq_true] at hv ⊢
    rcases hv with hv | hv
    · exact ⟨l, hv, .inl (by simp)⟩
    · obtain ⟨l', h1, h2⟩ := anyLRows_ex rows hv
      exact ⟨l', h1, .inr h2⟩
  | .sc _, hv => by simp [V.anyL] at hv
  | .ptr .., hv => by simp [V.anyL] at hv
  | .clo .., hv => by simp [V.anyL] at hv
  | .mref _, hv => by simp [V.anyL] at hv
  | .mp .., hv => by simp [V.anyL] at hv
  | .dead, hv => by simp [V.anyL] at hv
theorem anyLRow_ex {q : Lab → Bool} : ∀ (r : List V), anyLRow q r = true → ∃ l, q l = true ∧ anyLRow (fun l' => l' == l) r = true
  | [], hv => by simp [anyLRow] at hv
  | v :: r, hv => by
    simp only [anyLRow, Bool.or_eq_true] at hv ⊢
    rcases hv with hv | hv
    · obtain ⟨l', h1, h2⟩ := anyL_ex v hv
      exact ⟨l', h1, .inl h2⟩
    · obtain ⟨l', h1, h2⟩ := anyLRow_ex r hv
      exact ⟨l', h1, .inr h2⟩
theorem anyLRows_ex {q : Lab → Bool} : ∀ (r : List (List V)), anyLRows q r = true → ∃ l, q l = true ∧ anyLRows (fun l' => l' == l) r = true
  | [], hv => by simp [anyLRows] at hv
  | v :: r, hv => by
    simp only [anyLRows, Bool.or_eq_true] at hv ⊢
    rcases hv with hv | hv
    · obtain ⟨l', h1, h2⟩ := anyLRow_ex v hv
      exact ⟨l', h1, .inl h2⟩
    · obtain ⟨l', h1, h2⟩ := anyLRows_ex r hv
      exact ⟨l', h1, .inr h2⟩
end
theorem part_of {t : Nat} : ∀ {tops : List V} {v : V}, v ∈ tops → v.anyL (Lab.isTag t) = true → (∃ sz rows, v = .sl (.lent t) sz rows) ∨ partIn t tops = true
  | [], v, h, _ => by simp at h
  | u :: r, v, h, ha => by
    rcases List.mem_cons.1 h with rfl | h
    · cases v with
      | sl l sz rows =>
        cases l with
        | lent t' =>
          by_cases e : t' = t
          · subst e; exact .inl ⟨sz, rows, rfl⟩
          · right
            simp only [V.anyL, Lab.isTag, Bool.or_eq_true, beq_iff_eq] at ha
            simp only [partIn, if_neg e, Bool.or_eq_true]
            exact .inl (ha.resolve_left e)
        | _ => right; simp only [partIn, ha, Bool.true_or]
      | _ => right; simp only [partIn, ha, Bool.true_or]
    · refine (part_of h ha).imp id (fun hp => ?_)
      cases u with
      | sl l sz rows => cases l <;> simp [partIn, hp]
      | _ => simp [partIn, hp]
def lentIs (t : Nat) : V → Nat
  | .sl (.lent t') _ _ => if t' = t then 1 else 0
  | _ => 0
theorem lentIn_cons (t : Nat) (v : V) (r : List V) : lentIn t (v :: r) = lentIs t v + lentIn t r := by
  cases v with
  | sl l sz rows =>
    cases l with
    | lent t' =>
      simp only [lentIn, lentIs]
      split <;> omega
    | _ => simp [lentIn, lentIs]
  | _ => simp [lentIn, lentIs]
theorem lentIn_of {t sz : Nat} {rows : List (List V)} : ∀ {tops : List V}, V.sl (.lent t) sz rows ∈ tops → lentIn t tops ≠ 0
  | [], h => by simp at h
  | u :: r, h => by
    rw [lentIn_cons]
    rcases List.mem_cons.1 h with h | h
    · subst h; simp only [lentIs, if_true]; omega
    · have := lentIn_of h; omega
theorem lentIn_app (t : Nat) : ∀ (a b : List V), lentIn t (a ++ b) = lentIn t a + lentIn t b
  | [], b => by simp [lentIn]
  | v :: a, b => by rw [List.cons_append, lentIn_cons, lentIn_cons, lentIn_app t a b]; omega
def badLab (m : Nat) (tops : List V) (keys : List Nat) : Lab → Bool
  | .lent t => decide (t < m) && (keys.contains t || (decide (lentIn t tops = 0) && !partIn t tops))
  | .part t => decide (t < m) && (keys.contains t || (decide (lentIn t tops = 0) && !partIn t tops))
  | _ => false
def backF (back : List (Nat × V)) (fB : List (List Nat)) (n : Nat) : List Nat := match back, fB with
  | x :: back, f :: fB => if x.1 = n then f else backF back fB n
  | _, _ => []
theorem lookup_back {back : List (Nat × V)} {n : Nat} {o : V} : ∀ {fB : List (List Nat)}, back.length = fB.length → back.lookup n = some o → ∃ i : Nat, back[i]? = some (n, o) ∧ fB[i]? = some (backF back fB n) := by
  induction back with
  | nil => intro fB _ h; simp at h
  | cons x back ih =>
    intro fB hl h
    cases fB with
    | nil => simp at hl
    | cons f fB =>
      obtain ⟨k, v⟩ := x
      simp only [List.lookup_cons] at h
      by_cases e : k = n
      · subst e
        simp only [beq_self_eq_true, Option.some.injEq] at h
        subst h
        exact ⟨0, rfl, by simp [backF]⟩
      · have : (n == k) = false := by simpa using fun h => e h.symm
        rw [this] at h
        obtain ⟨i, h1, h2⟩ := ih (by simpa using hl) h
        exact ⟨i + 1, by simpa using h1, by simp only [backF, if_neg e]; simpa using h2⟩
theorem lookup_none {back : List (Nat × V)} {n : Nat} (h : back.lookup n = none) : ∀ x ∈ back, x.1 ≠ n := by
  induction back with
  | nil => simp
  | cons x back ih =>
    obtain ⟨k, v⟩ := x
    simp only [List.lookup_cons] at h
    by_cases e : k = n
    · subst e; simp at h
    · have : (n == k) = false := by simpa using fun h => e h.symm
      rw [this] at h
      intro x hx
      rcases List.mem_cons.1 hx with rfl | hx
      · exact e
      · exact ih h x hx
section
variable {P : Program} {E E2 E3 : Env} {w w2 : World} {β β2 : Nat → Option Nat} {s s2 : St} {tm : Array Value} {g g2 : Nat → List Nat} {cx : Cx} {C : Orc}
theorem home_turn {m : Nat} {cN : Nat → Value} {fN : Nat → List Nat} {tops : List V} {keys : List Nat} (ht : E2.tag = (E.call m cN fN).tag) (hh : E2.hdr = (E.call m cN fN).hdr) (h3t : E3.tag = E.tag) (h3h : E3.hdr = E.hdr)
    (hown : ∀ b, E3.own b → E2.own b) (hro : ∀ t, t < m → (lentIn t tops ≠ 0 ∨ partIn t tops = true) → t ∉ keys → ∀ b ∈ fN t, ¬ E3.own b) : Turn E2 E3 (badLab m tops keys) (Lab.dn m) := by
  have key : ∀ t b, badLab m tops keys (.lent t) = false → (¬ E2.own b ∨ ∃ q, E2.tag b = some q ∧ q t) → (t < m → ¬ E3.own b) ∧ (¬ t < m → (¬ E3.own b ∨ ∃ q, E3.tag b = some q ∧ q (t - m))) := by
    rintro t b hb (h | ⟨q, h1, h2⟩)
    · exact ⟨fun _ h3 => h (hown b h3), fun _ => .inl (fun h3 => h (hown b h3))⟩
    · rw [ht] at h1
      simp only [Env.call] at h1
      split at h1
      case isFalse => simp at h1
      obtain rfl := Option.some.inj h1
      rcases h2 with ⟨h2, h4⟩ | ⟨h2, q', h4, h5⟩
      · refine ⟨fun _ => ?_, fun hn => absurd h2 hn⟩
        simp only [badLab, decide_eq_true h2, Bool.true_and, Bool.or_eq_false_iff, Bool.and_eq_false_iff, decide_eq_false_iff_not, Bool.not_eq_false'] at hb
        exact hro t h2 (hb.2.imp id id) (by simpa using hb.1) b h4
      · exact ⟨fun hn => by omega, fun _ => .inr ⟨q', by rw [h3t]; exact h4, h5⟩⟩
  refine ⟨rfl, ?_, ?_, ?_⟩
  · intro l b hl hb h
    cases l with
    | own => exact absurd rfl hl
    | ro => exact fun h3 => h (hown b h3)
    | lent t =>
      obtain ⟨k1, k2⟩ := key t b hb h
      simp only [Lab.dn]
      split
      · rename_i ht'; exact k1 ht'
      · rename_i ht'; exact k2 ht'
    | part t =>
      obtain ⟨k1, k2⟩ := key t b (by simpa [badLab] using hb) h
      simp only [Lab.dn]
      split
      · rename_i ht'; exact k1 ht'
      · rename_i ht'; exact k2 ht'
  · intro l hl
    cases l <;> simp only [Lab.dn] <;> first | exact hl | (split <;> simp) | simp
  · intro l t hl hb h
    cases l with
    | lent t' =>
      simp only [Lab.dn] at h
      split at h
      · simp at h
      · rename_i hn
        simp only [Lab.lent.injEq] at h
        subst h
        exact ⟨t', rfl, by rw [h3h, hh]; simp only [Env.call]; rw [if_neg hn]⟩
    | part t' => simp only [Lab.dn] at h; split at h <;> simp at h
    | _ => simp [Lab.dn] at h
structure Home (E E2 E3 : Env) (w : World) (β2 β3 : Nat → Option Nat) (m : Nat) (cN : Nat → Value) (fN : Nat → List Nat) (tops : List V) (back : List (Nat × V)) (fB : List (List Nat)) (f : Nat → Nat) : Prop where
  turn : Turn E2 E3 (badLab m tops (back.map (·.1))) (Lab.dn m)
  back : Back E3 w β3 cN tops 0 m back fB
  hdr : ∀ t, t < m → E2.hdr t = cN t
  ren : ∀ v ∈ tops, ∀ r ∈ ptrsV v, β3 (f r) = β2 r
theorem back_keys {cN : Nat → Value} {tops : List V} {lo hi : Nat} {back : List (Nat × V)} {fB : List (List Nat)} (h : Back E w β cN tops lo hi back fB) {n : Nat} (hn : n ∈ back.map (·.1)) : lo ≤ n ∧ n < hi ∧ lentIn n tops = 1 ∧ partIn n tops = false := by
  obtain ⟨x, hx, rfl⟩ := List.mem_map.1 hn
  obtain ⟨i, hi⟩ := List.getElem?_of_mem hx
  obtain ⟨h1, h2, h3, h4, _⟩ := h.ok i x _ hi (List.getElem?_eq_getElem (by rw [← h.len]; exact (List.getElem?_eq_some_iff.1 hi).1))
  exact ⟨h1, h2, h3, h4⟩
theorem home_cell {β3 : Nat → Option Nat} {m : Nat} {cN : Nat → Value} {fN : Nat → List Nat} {tops : List V} {back : List (Nat × V)} {fB : List (List Nat)} {f : Nat → Nat} (H : Home E E2 E3 w β2 β3 m cN fN tops back fB f)
    {v : V} (hv : v ∈ tops) {c : Value} {fp : List Nat} (h : Rep E2 w β2 v c fp) : ∃ fp2, Rep E3 w β3 (homeV m back f v) c fp2 ∧
      ((fp2 = fp ∧ ∀ n, n ∈ back.map (·.1) → ∀ sz rows, v ≠ .sl (.lent n) sz rows) ∨ (∃ n sz rows, v = .sl (.lent n) sz rows ∧ n ∈ back.map (·.1) ∧ fp2 = backF back fB n)) := by
  have hplain : (∀ n, n ∈ back.map (·.1) → ∀ sz rows, v ≠ .sl (.lent n) sz rows) → Rep E3 w β3 ((v.dn m).ren f) c fp := by
    intro hne
    have hq : v.anyL (badLab m tops (back.map (·.1))) = false := by
      apply Classical.byContradiction
      intro hc
      obtain ⟨l, h1, h2⟩ := anyL_ex v (by simpa using hc)
      have : ∃ t, (l = .lent t ∨ l = .part t) ∧ t < m ∧ ((back.map (·.1)).contains t = true ∨ (lentIn t tops = 0 ∧ partIn t tops = false)) := by
        cases l <;> simp only [badLab, Bool.and_eq_true, Bool.or_eq_true, decide_eq_true_eq, Bool.not_eq_true', Bool.false_eq_true] at h1
        · exact ⟨_, .inl rfl, h1⟩
        · exact ⟨_, .inr rfl, h1⟩
      obtain ⟨t, hl, h3, h4⟩ := this
      have h5 : v.anyL (Lab.isTag t) = true := anyL_mono (fun l' he => by
        simp only [beq_iff_eq] at he
        subst he
        rcases hl with rfl | rfl <;> simp [Lab.isTag]) v h2
      rcases part_of hv h5 with ⟨sz, rows, rfl⟩ | hp
      · rcases h4 with h4 | ⟨h4, _⟩
        · exact hne t (by simpa using h4) sz rows rfl
        · exact lentIn_of hv h4
      · rcases h4 with h4 | ⟨_, h4⟩
        · have := (back_keys H.back (n := t) (by simpa using h4)).2.2.2
          rw [hp] at this; simp at this
        · rw [hp] at h4; simp at h4
    have h6 := Rep.mapL H.turn v c fp hq h
    exact Rep.ren _ _ _ (fun r hr => by rw [ptrs_mapL] at hr; exact H.ren v hv r hr) h6
  by_cases hl : ∃ n sz rows, v = .sl (.lent n) sz rows
  · obtain ⟨n, sz, rows, rfl⟩ := hl
    simp only [homeV]
    cases ho : back.lookup n with
    | some o =>
      simp only []
      obtain ⟨i, h1, h2⟩ := lookup_back H.back.len ho
      obtain ⟨k1, k2, k3, k4, k5, k6⟩ := H.back.ok i _ _ h1 h2
      simp only at k2 k5
      have hc : c = cN n := by
        simp only [Rep] at h
        obtain ⟨_, _, _, _, _, _, _, _, _, _, h6⟩ := h
        rw [← H.hdr n k2]; exact (h6 n rfl).symm
      rw [hc]
      exact ⟨_, k5, .inr ⟨n, sz, rows, rfl, List.mem_map.2 ⟨(n, o), List.mem_of_getElem? h1, rfl⟩, rfl⟩⟩
    | none =>
      simp only []
      have hne : ∀ n', n' ∈ back.map (·.1) → ∀ sz' rows', V.sl (.lent n) sz rows ≠ .sl (.lent n') sz' rows' := by
        intro n' hn' sz' rows' e
        simp only [V.sl.injEq, Lab.lent.injEq] at e
        obtain ⟨x, hx, e2⟩ := List.mem_map.1 hn'
        exact lookup_none ho x hx (by rw [e2, e.1])
      have := hplain hne
      refine ⟨fp, ?_, .inl ⟨rfl, hne⟩⟩
      simp only [V.dn, V.mapL] at this ⊢
      exact this
  · have hne : ∀ n, n ∈ back.map (·.1) → ∀ sz rows, v ≠ .sl (.lent n) sz rows := fun n _ sz rows e => hl ⟨n, sz, rows, e⟩
    refine ⟨fp, ?_, .inl ⟨rfl, hne⟩⟩
    have : homeV m back f v = (v.dn m).ren f := by
      cases v with
      | sl l sz rows => cases l <;> first | rfl | exact absurd ⟨_, _, _, rfl⟩ hl
      | _ => rfl
    rw [this]; exact hplain hne
def FromB (back : List (Nat × V)) (fB : List (List Nat)) (row : List V) (f f2 : List Nat) : Prop :=
  f2.Nodup ∧ ∀ b ∈ f2, b ∈ f ∨ ∃ n, n ∈ back.map (·.1) ∧ lentIn n row ≠ 0 ∧ b ∈ backF back fB n
theorem backF_nd {cN : Nat → Value} {tops : List V} {lo hi : Nat} : ∀ {back : List (Nat × V)} {fB : List (List Nat)}, back.length = fB.length → fB.flatten.Nodup → (∀ n, (backF back fB n).Nodup ∧ ∀ b ∈ backF back fB n, b ∈ fB.flatten) ∧ ∀ n n', n ≠ n' → ∀ b ∈ backF back fB n, b ∉ backF back fB n'
  | [], fB, _, _ => by simp [backF]
  | _ :: _, [], hl, _ => by simp at hl
  | x :: back, f :: fB, hl, hn => by
    simp only [List.flatten_cons, List.nodup_append] at hn
    obtain ⟨h1, h2⟩ := backF_nd (cN := cN) (tops := tops) (lo := lo) (hi := hi) (back := back) (fB := fB) (by simpa using hl) hn.2.1
    refine ⟨fun n => ?_, fun n n' hne b hb hb2 => ?_⟩
    · simp only [backF]
      split
      · exact ⟨hn.1, fun b hb => by simp [hb]⟩
      · exact ⟨(h1 n).1, fun b hb => by simp only [List.flatten_cons, List.mem_append]; exact .inr ((h1 n).2 b hb)⟩
    · simp only [backF] at hb hb2
      split at hb
      · rename_i e
        rw [if_neg (fun e2 => hne (e.symm.trans e2))] at hb2
        exact hn.2.2 b hb b ((h1 n').2 b hb2) rfl
      · split at hb2
        · exact hn.2.2 b hb2 b ((h1 n).2 b hb) rfl
        · exact h2 n n' hne b hb hb2
theorem home_row {β3 : Nat → Option Nat} {m : Nat} {cN : Nat → Value} {fN : Nat → List Nat} {tops : List V} {back : List (Nat × V)} {fB : List (List Nat)} {f : Nat → Nat} (H : Home E E2 E3 w β2 β3 m cN fN tops back fB f) :
    ∀ {r : List V} {cs : List Value} {fp : List Nat}, (∀ v ∈ r, v ∈ tops) → (∀ n, n ∈ back.map (·.1) → lentIn n r ≤ 1) → fp.Nodup → (∀ b ∈ fB.flatten, b ∉ fp) → RepRow E2 w β2 r cs fp →
      ∃ fp2, RepRow E3 w β3 (r.map (homeV m back f)) cs fp2 ∧ FromB back fB r fp fp2
  | [], cs, fp, _, _, hn, hd, h => by
    simp only [RepRow] at h
    exact ⟨[], by simp [RepRow, h.1], by simp [FromB]⟩
  | v :: r, cs, fp, ht, hl, hn, hd, h => by
    simp only [RepRow] at h
    obtain ⟨c, cs', f1, f2, rfl, rfl, h1, h2⟩ := h
    obtain ⟨z1, z2⟩ := backF_nd (cN := cN) (tops := tops) (lo := 0) (hi := m) H.back.len H.back.nd
    obtain ⟨g1, k1, k2⟩ := home_cell H (ht v (by simp)) h1
    rw [List.nodup_append] at hn
    obtain ⟨g2, m1, m2, m3⟩ := home_row H (r := r) (fun v hv => ht v (by simp [hv])) (fun n hn => by have := hl n hn; rw [lentIn_cons] at this; omega) hn.2.1 (fun b hb hb2 => hd b hb (by simp [hb2])) h2
    refine ⟨g1 ++ g2, ?_, ?_, ?_⟩
    · simp only [List.map_cons, RepRow]
      exact ⟨c, cs', g1, g2, rfl, rfl, k1, m1⟩
    · rw [List.nodup_append]
      rcases k2 with ⟨rfl, k3⟩ | ⟨n, sz, rows, rfl, k3, rfl⟩
      · refine ⟨hn.1, m2, fun a ha b hb e => ?_⟩
        subst e
        rcases m3 a hb with hb | ⟨n, _, _, hb⟩
        · exact hn.2.2 a ha a hb rfl
        · exact hd a ((z1 n).2 a hb) (by simp [ha])
      · refine ⟨(z1 n).1, m2, fun a ha b hb e => ?_⟩
        subst e
        rcases m3 a hb with hb | ⟨n', h3, h4, hb⟩
        · exact hd a ((z1 n).2 a ha) (by simp [hb])
        · have hne : n ≠ n' := by
            rintro rfl
            have := hl n k3
            rw [lentIn_cons] at this
            simp only [lentIs, if_true] at this
            omega
          exact z2 n n' hne a ha hb
    · intro b hb
      rcases List.mem_append.1 hb with hb | hb
      · rcases k2 with ⟨rfl, k3⟩ | ⟨n, sz, rows, rfl, k3, rfl⟩
        · exact .inl (by simp [hb])
        · exact .inr ⟨n, k3, by rw [lentIn_cons]; simp only [lentIs, if_true]; omega, hb⟩
      · rcases m3 b hb with hb | ⟨n, h3, h4, hb⟩
        · exact .inl (by simp [hb])
        · exact .inr ⟨n, h3, by rw [lentIn_cons]; omega, hb⟩
def T.rowS : T → List V
  | .one v => [v]
  | .agg r => r
  | _ => []
def homeS (m : Nat) (b : List (Nat × V)) (f : Nat → Nat) : T → T
  | .one v => .one (homeV m b f v)
  | .agg r => .agg (r.map (homeV m b f))
  | t => t
theorem homeT_tup (m : Nat) (b : List (Nat × V)) (f : Nat → Nat) (ts : List T) : homeT m b f (.tup ts) = .tup (ts.map (homeS m b f)) := by
  simp only [homeT, T.tup.injEq]
  apply List.map_congr_left
  intro t _
  cases t <;> rfl
theorem tops_tup (ts : List T) : (T.tup ts).tops = ts.flatMap T.rowS := by
  simp only [T.tops]
  congr 1
theorem home_solid {β3 : Nat → Option Nat} {m : Nat} {cN : Nat → Value} {fN : Nat → List Nat} {tops : List V} {back : List (Nat × V)} {fB : List (List Nat)} {f : Nat → Nat} (H : Home E E2 E3 w β2 β3 m cN fN tops back fB f)
    {t : T} {cv : Value} {fp : List Nat} (hs : t.solid = true) (ht : ∀ v ∈ t.rowS, v ∈ tops) (hl : ∀ n, n ∈ back.map (·.1) → lentIn n t.rowS ≤ 1) (hn : fp.Nodup) (hd : ∀ b ∈ fB.flatten, b ∉ fp) (h : TOk E2 w β2 [] #[] t cv fp) :
    (homeS m back f t).solid = true ∧ ∃ fp2, TOk E3 w β3 [] #[] (homeS m back f t) cv fp2 ∧ FromB back fB t.rowS fp fp2 := by
  cases t <;> simp [T.solid] at hs
  · rename_i v
    simp only [TOk] at h
    obtain ⟨fp2, h1, h2⟩ := home_row H (r := [v]) (cs := [cv]) (fp := fp) ht hl hn hd (by simp only [RepRow]; exact ⟨cv, [], fp, [], rfl, by simp, h, rfl, rfl⟩)
    refine ⟨rfl, fp2, ?_, h2⟩
    simp only [List.map_cons, List.map_nil, RepRow] at h1
    obtain ⟨c, cs', f1, f2, e1, rfl, e3, rfl, rfl⟩ := h1
    simp only [List.cons.injEq, and_true] at e1
    subst e1
    simp only [homeS, TOk, List.append_nil]; exact e3
  · rename_i r
    simp only [TOk] at h
    obtain ⟨cs, e, h⟩ := h
    obtain ⟨fp2, h1, h2⟩ := home_row H (r := r) (fp := fp) ht hl hn hd h
    refine ⟨rfl, fp2, ?_, h2⟩
    simp only [homeS, TOk]; exact ⟨cs, e, h1⟩
theorem home_parts {β3 : Nat → Option Nat} {m : Nat} {cN : Nat → Value} {fN : Nat → List Nat} {tops : List V} {back : List (Nat × V)} {fB : List (List Nat)} {f : Nat → Nat} (H : Home E E2 E3 w β2 β3 m cN fN tops back fB f) :
    ∀ (ts : List T) (vs : List Value) (fts : List (List Nat)), ts.all T.solid = true → (∀ v ∈ ts.flatMap T.rowS, v ∈ tops) → (∀ n, n ∈ back.map (·.1) → lentIn n (ts.flatMap T.rowS) ≤ 1) → fts.flatten.Nodup → (∀ b ∈ fB.flatten, b ∉ fts.flatten) →
      vs.length = ts.length → fts.length = ts.length → (∀ (i : Nat) (t : T) (v : Value) (f : List Nat), ts[i]? = some t → vs[i]? = some v → fts[i]? = some f → TOk E2 w β2 [] #[] t v f) →
      (ts.map (homeS m back f)).all T.solid = true ∧ ∃ fts2 : List (List Nat), fts2.length = ts.length ∧ (∀ (i : Nat) (t : T) (v : Value) (g : List Nat), (ts.map (homeS m back f))[i]? = some t → vs[i]? = some v → fts2[i]? = some g → TOk E3 w β3 [] #[] t v g) ∧
        FromB back fB (ts.flatMap T.rowS) fts.flatten fts2.flatten
  | [], vs, fts, _, _, _, _, _, _, hl, _ => by
    refine ⟨rfl, [], rfl, by simp, by simp [FromB]⟩
  | t :: ts, [], fts, _, _, _, _, _, hv, _, _ => by simp at hv
  | t :: ts, _ :: _, [], _, _, _, _, _, _, hl, _ => by simp at hl
  | t :: ts, v :: vs, fp :: fts, hs, ht, hl, hn, hd, hv, hf, h => by
    simp only [List.all_cons, Bool.and_eq_true] at hs
    simp only [List.flatten_cons] at hn hd ⊢
    rw [List.nodup_append] at hn
    simp only [List.flatMap_cons] at ht hl ⊢
    obtain ⟨z1, z2⟩ := backF_nd (cN := cN) (tops := tops) (lo := 0) (hi := m) H.back.len H.back.nd
    obtain ⟨k1, f1, k2, k3, k4⟩ := home_solid H hs.1 (fun v hv => ht v (by simp [hv])) (fun n hn => by have := hl n hn; rw [lentIn_app] at this; omega) hn.1 (fun b hb hb2 => hd b hb (by simp [hb2])) (h 0 t v fp rfl rfl rfl)
    obtain ⟨m1, f2, m2, m3, m4, m5⟩ := home_parts H ts vs fts hs.2 (fun v hv => ht v (by simp only [List.mem_append]; exact .inr hv)) (fun n hn => by have := hl n hn; rw [lentIn_app] at this; omega) hn.2.1 (fun b hb hb2 => hd b hb (by simp only [List.mem_append]; exact .inr hb2)) (by simpa using hv) (by simpa using hf)
      (fun i t v f h1 h2 h3 => h (i + 1) t v f (by simpa using h1) (by simpa using h2) (by simpa using h3))
    refine ⟨by simp only [List.map_cons, List.all_cons, k1, m1, Bool.and_self], f1 :: f2, by simp [m2], ?_, ?_, ?_⟩
    · intro i t' v' g' h1 h2 h3
      cases i with
      | zero =>
        simp only [List.map_cons, List.getElem?_cons_zero, Option.some.injEq] at h1 h2 h3
        subst h1; subst h2; subst h3; exact k2
      | succ i => exact m3 i t' v' g' (by simpa using h1) (by simpa using h2) (by simpa using h3)
    · simp only [List.flatten_cons]
      rw [List.nodup_append]
      refine ⟨k3, m4, fun a ha b hb e => ?_⟩
      subst e
      rcases k4 a ha with ha | ⟨n, p1, p2, ha⟩
      · rcases m5 a hb with hb | ⟨n', q1, q2, hb⟩
        · exact hn.2.2 a ha a hb rfl
        · exact hd a ((z1 n').2 a hb) (by simp [ha])
      · rcases m5 a hb with hb | ⟨n', q1, q2, hb⟩
        · exact hd a ((z1 n).2 a ha) (by simp only [List.mem_append]; exact .inr hb)
        · have hne : n ≠ n' := by
            rintro rfl
            have := hl n p1
            rw [lentIn_app] at this; omega
          exact z2 n n' hne a ha hb
    · intro b hb
      simp only [List.flatten_cons] at hb
      rcases List.mem_append.1 hb with hb | hb
      · rcases k4 b hb with hb | ⟨n, p1, p2, hb⟩
        · exact .inl (by simp [hb])
        · exact .inr ⟨n, p1, by rw [lentIn_app]; omega, hb⟩
      · rcases m5 b hb with hb | ⟨n, p1, p2, hb⟩
        · exact .inl (by simp only [List.mem_append]; exact .inr hb)
        · exact .inr ⟨n, p1, by rw [lentIn_app]; omega, hb⟩
end
end Pv

set_option linter.unusedVariables false
set_option linter.unusedSimpArgs false
namespace Pv
open Go
section
variable {P : Program} {E E2 E3 : Env} {w w2 : World} {β β2 : Nat → Option Nat} {s s2 : St} {tm : Array Value} {g g2 : Nat → List Nat} {cx : Cx} {C : Orc}
structure Hand1 (E : Env) (w : World) (β : Nat → Option Nat) (s : St) (tm : Array Value) (io : List Nat) (i : Nat) (x : Operand) (X : O) (h : List V × Bool × Option Pl) : Prop where
  opd : OpdOk x X
  out : i ∉ io → HdOk E w β s tm h (ev tm x) ∧ (∀ p, h.2.2 = some p → AlOk s p)
  inn : i ∈ io → nOwn h.1 = 0 ∧ ((h.2.1 = true ∧ h.1 = [] ∧ ∃ p n, s.opv X = some (.ala p n)) ∨ (h.2.1 = false ∧ h.1 = [.dead] ∧ ∀ p n, s.opv X ≠ some (.ala p n)))
theorem handAll_ok (hI : Inv E w β s tm g) {io : List Nat} : ∀ (xs : List Operand) (Xs : List O) (j : Nat) (hs : List (List V × Bool × Option Pl)), OpdsOk xs Xs → handAll s io j Xs = some hs →
    hs.length = Xs.length ∧ xs.length = Xs.length ∧ ∀ (i : Nat) (h : List V × Bool × Option Pl), hs[i]? = some h → ∃ x X, xs[i]? = some x ∧ Xs[i]? = some X ∧ Hand1 E w β s tm io (j + i) x X h
  | [], [], j, hs, _, h => by
    simp only [handAll, Option.some.injEq] at h
    subst h; simp
  | x :: xs, X :: Xs, j, hs, ho, h => by
    simp only [OpdsOk] at ho
    simp only [handAll] at h
    split at h
    case h_2 => simp at h
    rename_i h0 hs0 e1 e2
    obtain rfl := Option.some.inj h
    obtain ⟨k1, k2, k3⟩ := handAll_ok hI xs Xs (j + 1) hs0 ho.2 e2
    refine ⟨by simp [k1], by simp [k2], fun i h hi => ?_⟩
    cases i with
    | zero =>
      simp only [List.getElem?_cons_zero, Option.some.injEq] at hi
      subst hi
      refine ⟨x, X, rfl, rfl, ho.1, fun hn => ?_, fun hin => ?_⟩
      · rw [if_neg (by simpa using hn)] at e1
        exact hand_ok hI ho.1 e1
      · rw [if_pos (by simpa using hin)] at e1
        split at e1
        · rename_i p n hv
          obtain rfl := Option.some.inj e1
          exact ⟨rfl, .inl ⟨rfl, rfl, p, n, hv⟩⟩
        · rename_i hne
          obtain rfl := Option.some.inj e1
          exact ⟨rfl, .inr ⟨rfl, rfl, fun p n hv => hne p n hv⟩⟩
    | succ i =>
      obtain ⟨x', X', q1, q2, q3⟩ := k3 i h (by simpa using hi)
      exact ⟨x', X', by simpa using q1, by simpa using q2, by rw [show j + (i + 1) = j + 1 + i from by omega]; exact q3⟩
  | [], _ :: _, _, _, ho, _ => ho.elim
  | _ :: _, [], _, _, ho, _ => ho.elim
theorem nodesAll_get : ∀ (hs : List (List V × Bool × Option Pl)) (n : Nat) (x : Pl × V), (nodesAll hs)[n]? = some x → ∃ (i j : Nat) (h : List V × Bool × Option Pl), hs[i]? = some h ∧ h.1[j]? = some x.2 ∧ x.1 = shift (h.2.2.getD dflPl) j ∧ isOwnSl x.2 = true
  | [], _, _, h => by simp [nodesAll] at h
  | (r, ag, p) :: hs, n, x, h => by
    simp only [nodesAll] at h
    by_cases hn : n < (nodesRow (p.getD dflPl) 0 r).length
    · rw [List.getElem?_append_left hn] at h
      obtain ⟨i, e1, e2, e3⟩ := nodesRow_get _ _ _ _ _ h
      exact ⟨0, i, (r, ag, p), rfl, e1, by rw [e2, Nat.zero_add], e3⟩
    · rw [List.getElem?_append_right (by omega)] at h
      obtain ⟨i, j, h0, e1, e2⟩ := nodesAll_get hs _ x h
      exact ⟨i + 1, j, h0, by simpa using e1, e2⟩
structure NodeOk (E : Env) (w : World) (β : Nat → Option Nat) (s : St) (tm : Array Value) (g : Nat → List Nat) (x : Pl × V) (c : Value) (f : List Nat) : Prop where
  cell : s.cell x.1 = some x.2
  val : plVal w β tm x.1 = some c
  rep : Rep E w β x.2 c f
  sub : ∀ b ∈ f, b ∈ g x.1.r
theorem noOwn_zero : ∀ {r : List V} {j : Nat} {v : V}, nOwn r = 0 → r[j]? = some v → isOwnSl v = false
  | [], _, _, _, h => by simp at h
  | a :: r, 0, v, hn, h => by
    simp only [List.getElem?_cons_zero, Option.some.injEq] at h
    subst h
    rw [nOwn_cons] at hn
    split at hn
    · omega
    · rename_i h; simpa using h
  | a :: r, j + 1, v, hn, h => by
    rw [nOwn_cons] at hn
    exact noOwn_zero (r := r) (j := j) (by split at hn <;> omega) (by simpa using h)
theorem nodes_ok (hI : Inv E w β s tm g) {io : List Nat} {xs : List Operand} {Xs : List O} {hs : List (List V × Bool × Option Pl)} (hx : OpdsOk xs Xs) (hh : handAll s io 0 Xs = some hs) :
    ∃ (cN : Nat → Value) (fN : Nat → List Nat), ∀ (n : Nat) (x : Pl × V), (nodesAll hs)[n]? = some x → NodeOk E w β s tm g x (cN n) (fN n) := by
  obtain ⟨_, _, hall⟩ := handAll_ok hI xs Xs 0 hs hx hh
  have key : ∀ n : Nat, ∃ cf : Value × List Nat, ∀ x : Pl × V, (nodesAll hs)[n]? = some x → NodeOk E w β s tm g x cf.1 cf.2 := by
    intro n
    cases hn : (nodesAll hs)[n]? with
    | none => exact ⟨(.nilFunc, []), by simp⟩
    | some x =>
      obtain ⟨i, j, h, e1, e2, e3, e4⟩ := nodesAll_get hs n x hn
      obtain ⟨y, Y, q1, q2, q3⟩ := hall i h e1
      rw [Nat.zero_add] at q3
      by_cases hio : i ∈ io
      · obtain ⟨z, _⟩ := q3.inn hio
        rw [noOwn_zero z e2] at e4; simp at e4
      · obtain ⟨⟨⟨cs, k1, k2, k3⟩, _⟩, k4⟩ := q3.out hio
        have hlt := (List.getElem?_eq_some_iff.1 e2).1
        obtain ⟨c, hc⟩ : ∃ c, cs[j]? = some c := ⟨cs[j]'(by omega), by simp⟩
        rcases k3 j x.2 c e2 hc with ⟨a, _⟩ | a | ⟨_, p', m1, m2, m3⟩
        · exfalso
          cases hv : x.2 with
          | sl l sz rows => rw [hv] at e4 a; cases l <;> simp [isOwnSl, V.noOwn] at e4 a
          | _ => rw [hv] at e4; simp [isOwnSl] at e4
        · rw [a] at e4; simp [isOwnSl] at e4
        · rw [m1] at e3
          simp only [Option.getD_some] at e3
          rw [← e3] at m2 m3
          obtain ⟨c', f, r1, r2, r3⟩ := cell_rep hI m2 (by intro e; rw [e] at e4; simp [isOwnSl] at e4)
          rw [m3] at r1
          obtain rfl := Option.some.inj r1
          exact ⟨(c, f), fun x' hx' => by obtain rfl := Option.some.inj hx'; exact ⟨m2, m3, r2, r3⟩⟩
  obtain ⟨cf, hcf⟩ := Classical.axiomOfChoice key
  exact ⟨fun n => (cf n).1, fun n => (cf n).2, hcf⟩
theorem viewAll_ok {m : Nat} : ∀ (hs : List (List V × Bool × Option Pl)) (n : Nat) (args : List T), viewAll m n hs = some args →
    args.length = hs.length ∧ ∀ (i : Nat) (t : T) (h : List V × Bool × Option Pl), args[i]? = some t → hs[i]? = some h → ∃ k, mkT (lendRow m (n + k) h.1) h.2.1 = some t ∧ k + nOwn h.1 ≤ (nodesAll hs).length ∧
      ∀ (j : Nat) (x : Pl × V), (nodesRow (h.2.2.getD dflPl) 0 h.1)[j]? = some x → (nodesAll hs)[k + j]? = some x
  | [], n, args, h => by
    simp only [viewAll, Option.some.injEq] at h
    subst h; simp
  | (r, ag, p) :: hs, n, args, h => by
    simp only [viewAll] at h
    split at h
    case h_2 => simp at h
    rename_i t0 ts e1 e2
    obtain rfl := Option.some.inj h
    obtain ⟨k1, k2⟩ := viewAll_ok hs (n + nOwn r) ts e2
    have hlen := nodesRow_len (p.getD dflPl) r 0
    refine ⟨by simp [k1], fun i t h ht hh => ?_⟩
    cases i with
    | zero =>
      simp only [List.getElem?_cons_zero, Option.some.injEq] at ht hh
      subst ht; subst hh
      refine ⟨0, e1, by simp [nodesAll, hlen], fun j x hx => ?_⟩
      simp only [nodesAll, Nat.zero_add]
      rw [List.getElem?_append_left (List.getElem?_eq_some_iff.1 hx).1]; exact hx
    | succ i =>
      obtain ⟨k, q1, q2, q3⟩ := k2 i t h (by simpa using ht) (by simpa using hh)
      refine ⟨nOwn r + k, by rw [← Nat.add_assoc]; exact q1, by simp [nodesAll, hlen]; omega, fun j x hx => ?_⟩
      simp only [nodesAll]
      rw [List.getElem?_append_right (by omega), hlen, show nOwn r + k + j - nOwn r = k + j from by omega]
      exact q3 j x hx
theorem views_in (hI : Inv E w β s tm g) {io : List Nat} {xs : List Operand} {Xs : List O} {hs : List (List V × Bool × Option Pl)} {args : List T} {cN : Nat → Value} {fN : Nat → List Nat} (hx : OpdsOk xs Xs) (hh : handAll s io 0 Xs = some hs)
    (hv : viewAll (nodesAll hs).length 0 hs = some args) (hN : ∀ (n : Nat) (x : Pl × V), (nodesAll hs)[n]? = some x → NodeOk E w β s tm g x (cN n) (fN n)) :
    args.length = xs.length ∧ ∀ (i : Nat) (t : T), args[i]? = some t → t.solid = true ∧ (i ∉ io → ∃ x, xs[i]? = some x ∧ TOk (E.call (nodesAll hs).length cN fN) w β [] #[] t (ev tm x) []) ∧
      (i ∈ io → ∃ X, Xs[i]? = some X ∧ (t.isAgg = true ↔ ∃ p n, s.opv X = some (.ala p n))) := by
  obtain ⟨a1, a2, a3⟩ := handAll_ok hI xs Xs 0 hs hx hh
  obtain ⟨b1, b2⟩ := viewAll_ok hs 0 args hv
  refine ⟨by omega, fun i t ht => ?_⟩
  have hlt := (List.getElem?_eq_some_iff.1 ht).1
  obtain ⟨h, hi⟩ : ∃ h, hs[i]? = some h := ⟨hs[i]'(by omega), by simp⟩
  obtain ⟨x, X, q1, q2, q3⟩ := a3 i h hi
  rw [Nat.zero_add] at q3
  obtain ⟨k, m1, m2, m3⟩ := b2 i t h ht hi
  rw [Nat.zero_add] at m1
  refine ⟨mkT_solid m1, fun hn => ?_, fun hin => ?_⟩
  · obtain ⟨⟨⟨cs, k1, k2, k3⟩, _⟩, k4⟩ := q3.out hn
    refine ⟨x, q1, ?_⟩
    have := view_row (E := E) (w := w) (β := β) (s := s) (tm := tm) (m := (nodesAll hs).length) (cN := cN) (fN := fN) (p := h.2.2) h.1 cs 0 k k2 (by simpa using k3) m2 (fun j x hx => by
      have := hN (k + j) x (m3 j x hx)
      exact ⟨this.val, this.rep⟩)
    exact (mkT_solid' m1 k1 this).2.1
  · refine ⟨X, q2, ?_⟩
    obtain ⟨_, z | z⟩ := q3.inn hin
    · obtain ⟨z1, z2, z3⟩ := z
      rw [z2, z1] at m1
      simp only [lendRow, mkT, if_true, Option.some.injEq] at m1
      subst m1
      exact ⟨fun _ => z3, fun _ => rfl⟩
    · obtain ⟨z1, z2, z3⟩ := z
      rw [z2, z1] at m1
      simp only [lendRow, V.up, V.mapL, mkT, Bool.false_eq_true, if_false, Option.some.injEq] at m1
      subst m1
      exact ⟨fun h => by simp [T.isAgg] at h, fun ⟨p, n, h⟩ => absurd h (z3 p n)⟩
theorem rowsOf_ok : ∀ {boxes : List Nat} {rows : List (List V)}, rowsOf s boxes = some rows → rows.length = boxes.length ∧ ∀ (j r : Nat) (row : List V), boxes[j]? = some r → rows[j]? = some row → s.boxRow r = some row
  | [], rows, h => by
    simp only [rowsOf, Option.some.injEq] at h
    subst h; simp
  | r :: rs, rows, h => by
    simp only [rowsOf] at h
    split at h
    case h_2 => simp at h
    rename_i x xs e1 e2
    obtain rfl := Option.some.inj h
    obtain ⟨k1, k2⟩ := rowsOf_ok e2
    refine ⟨by simp [k1], fun j r' row h1 h2 => ?_⟩
    cases j with
    | zero =>
      simp only [List.getElem?_cons_zero, Option.some.injEq] at h1 h2
      subst h1; subst h2; exact e1
    | succ j => exact k2 j r' row (by simpa using h1) (by simpa using h2)
theorem boxRow_ok {r : Nat} {row : List V} (h : s.boxRow r = some row) : (∃ ka va ks vs v, s.get r = some (.mp r ka va ks vs, v) ∧ 600000 ≤ r ∧ row = [.mp ka va ks vs]) ∨ (∃ v, s.get r = some (.agg row, v) ∧ isBox r = true) := by
  unfold St.boxRow at h
  split at h
  · rename_i r' ka va ks vs v hg
    split at h
    · rename_i hh
      obtain rfl := Option.some.inj h
      obtain ⟨rfl, h2⟩ := hh
      exact .inl ⟨ka, va, ks, vs, v, hg, h2, rfl⟩
    · simp at h
  · rename_i row' v hg
    split at h
    · rename_i hh
      obtain rfl := Option.some.inj h
      exact .inr ⟨v, hg, by simpa [isBox] using hh⟩
    · simp at h
  · simp at h
structure IoOk (E : Env) (w : World) (β : Nat → Option Nat) (s : St) (tm : Array Value) (g : Nat → List Nat) (x : Operand) (X : O) (r : Nat) (row : List V) (F : List Nat) : Prop where
  ex : ∃ (ag : Bool) (cs : List Value) (cur : List V) (ds : List Value) (fc : List Nat) (t : T) (v : Nat), s.get r = some (t, v) ∧ t.row? = some cur ∧ cur.length = row.length ∧ cellsAre ag (ev tm x) cs ∧ RepRow E w β row cs F ∧ (ag = false → row.length = 1) ∧ (ag = true ↔ ∃ p n, s.opv X = some (.ala p n)) ∧
    RepRow E w β cur ds fc ∧ (∀ (j : Nat) (a : V), row[j]? = some a → isOwnSl a = true → cur[j]? = some a ∧ cs[j]? = ds[j]?) ∧
    ((isBox r = true ∧ ∃ b, β r = some b ∧ t = .agg cur ∧ g r = b :: fc ∧ RowAt w b 0 ds ∧ Clean w b ds.length ∧ b < w.heap.size) ∨
       (isBox r = false ∧ g r = fc ∧ ((∃ v, cur = [v] ∧ t = .one v ∧ ds = [cvOf tm r]) ∨ (t = .agg cur ∧ ∃ a : Array Value, cvOf tm r = .agg a ∧ ds = a.toList))))
theorem io_rep {row cur : List V} : ∀ {cs ds : List Value} {fc : List Nat}, row.length = cur.length → cs.length = row.length → RepRow E w β cur ds fc →
    (∀ (j : Nat) (a : V) (c : Value), row[j]? = some a → cs[j]? = some c → (a.noOwn = true ∧ Rep E w β a c []) ∨ a = .dead ∨ (isOwnSl a = true ∧ cur[j]? = some a ∧ cs[j]? = ds[j]?)) →
    ∃ F, RepRow E w β row cs F ∧ F.Sublist fc := by
  induction row generalizing cur with
  | nil =>
    intro cs ds fc h1 h2 h3 _
    cases cs <;> simp at h2
    exact ⟨[], by simp [RepRow], by simp⟩
  | cons a row ih =>
    intro cs ds fc h1 h2 h3 h4
    cases cur with
    | nil => simp at h1
    | cons b cur =>
      cases cs with
      | nil => simp at h2
      | cons c cs =>
        simp only [RepRow] at h3
        obtain ⟨d, ds', f1, f2, rfl, rfl, k1, k2⟩ := h3
        obtain ⟨F, m1, m2⟩ := ih (cur := cur) (cs := cs) (ds := ds') (fc := f2) (by simpa using h1) (by simpa using h2) k2 (fun j a' c' e1 e2 => by
          have := h4 (j + 1) a' c' (by simpa using e1) (by simpa using e2)
          simpa using this)
        rcases h4 0 a c rfl rfl with ⟨_, q⟩ | q | ⟨_, q1, q2⟩
        · exact ⟨F, by simp only [RepRow]; exact ⟨c, cs, [], F, rfl, rfl, q, m1⟩, m2.trans (List.sublist_append_right ..)⟩
        · subst q
          exact ⟨F, by simp only [RepRow]; exact ⟨c, cs, [], F, rfl, rfl, by simp [Rep], m1⟩, m2.trans (List.sublist_append_right ..)⟩
        · simp only [List.getElem?_cons_zero, Option.some.injEq] at q1 q2
          subst q1; subst q2
          exact ⟨f1 ++ F, by simp only [RepRow]; exact ⟨c, cs, f1, F, rfl, rfl, k1, m1⟩, (List.Sublist.refl f1).append m2⟩
theorem whole_ok {p : Pl} {cur : List V} (h : s.whole p = some cur) : p.path = [] ∧ p.off = 0 ∧ ∃ t, s.get p.r = some (t, p.ver) ∧ t.row? = some cur := by
  unfold St.whole at h
  split at h
  case h_2 => simp at h
  rename_i t v hg
  split at h
  case isFalse => simp at h
  rename_i hh
  obtain ⟨h1, h2, h3⟩ := hh
  subst h3
  exact ⟨h1, h2, t, hg, h⟩
theorem whole_cell {p : Pl} {cur : List V} (h : s.whole p = some cur) (j : Nat) : s.cell (shift p j) = cur[j]? := by
  obtain ⟨w1, w2, t, w3, w4⟩ := whole_ok h
  obtain ⟨pr, off, path, ver⟩ := p
  simp only at w1 w2 w3; subst w1; subst w2
  simp [St.cell, St.place, shift, w3, w4, getRow]
theorem takeOne_ok (hI : Inv E w β s tm g) {x : Operand} {X : O} {r : Nat} {row : List V} (hx : OpdOk x X) (h : takeOne s X = some (r, row)) : ∃ F : List Nat, IoOk E w β s tm g x X r row F ∧ F.Sublist (g r) := by
  have main : ∀ (p : Pl) (cur : List V) (ag : Bool) (cs : List Value), s.whole p = some cur → r = p.r → row.length = cur.length → cellsAre ag (ev tm x) cs → cs.length = row.length → (ag = false → row.length = 1) → (ag = true ↔ ∃ p n, s.opv X = some (.ala p n)) →
      (∀ (j : Nat) (a : V) (c : Value), row[j]? = some a → cs[j]? = some c → (a.noOwn = true ∧ Rep E w β a c []) ∨ a = .dead ∨ (isOwnSl a = true ∧ cur[j]? = some a ∧ plVal w β tm (shift p j) = some c)) → ∃ F : List Nat, IoOk E w β s tm g x X r row F ∧ F.Sublist (g r) := by
    intro p cur ag cs hw hr hl hca hcl hag hagi hj
    obtain ⟨w1, w2, t, w3, w4⟩ := whole_ok hw
    obtain ⟨ds, fc, k1, k2, k3⟩ := hI.row w3 w4
    have hpos : ∀ (j : Nat) (a : V) (c : Value), cur[j]? = some a → a ≠ .dead → plVal w β tm (shift p j) = some c → ds[j]? = some c := by
      intro j a c hcur hd hp
      obtain ⟨pr, off, path, ver⟩ := p
      simp only at w1 w2; subst w1; subst w2
      simp only [shift, plVal, Nat.zero_add] at hp
      rw [← hp]; exact (k2 j a hcur hd).symm
    have hj2 : ∀ (j : Nat) (a : V) (c : Value), row[j]? = some a → cs[j]? = some c → (a.noOwn = true ∧ Rep E w β a c []) ∨ a = .dead ∨ (isOwnSl a = true ∧ cur[j]? = some a ∧ cs[j]? = ds[j]?) := by
      intro j a c h1 h2
      rcases hj j a c h1 h2 with q | q | ⟨q1, q2, q3⟩
      · exact .inl q
      · exact .inr (.inl q)
      · exact .inr (.inr ⟨q1, q2, by rw [h2, hpos j a c q2 (by intro e; rw [e] at q1; simp [isOwnSl] at q1) q3]⟩)
    obtain ⟨F, m1, m2⟩ := io_rep hl hcl k1 hj2
    have hsub : fc.Sublist (g p.r) := by
      rcases k3 with ⟨_, b, _, _, e, _⟩ | ⟨_, e, _⟩
      · rw [e]; exact List.sublist_cons_self ..
      · rw [e]; exact List.Sublist.refl _
    refine ⟨F, ⟨ag, cs, cur, ds, fc, t, p.ver, by rw [hr]; exact w3, w4, hl.symm, hca, m1, hag, hagi, k1, fun j a h1 h2 => ?_, by rw [hr]; exact k3⟩, by rw [hr]; exact m2.trans hsub⟩
    have hlt := (List.getElem?_eq_some_iff.1 h1).1
    obtain ⟨c, hc⟩ : ∃ c, cs[j]? = some c := ⟨cs[j]'(by omega), by simp⟩
    rcases hj2 j a c h1 hc with ⟨q, _⟩ | q | ⟨_, q2, q3⟩
    · exfalso
      cases a with
      | sl l sz rows => cases l <;> simp [isOwnSl, V.noOwn] at h2 q
      | _ => simp [isOwnSl] at h2
    · subst q; simp [isOwnSl] at h2
    · exact ⟨q2, q3⟩
  unfold takeOne at h
  split at h
  · rename_i p hv
    split at h
    case h_2 => simp at h
    rename_i v hw
    simp only [Option.some.injEq, Prod.mk.injEq] at h
    obtain ⟨rfl, rfl⟩ := h
    obtain ⟨fp, h1, _⟩ := opd_tok hI hx hv
    simp only [TOk] at h1
    obtain ⟨_, hal, hsay⟩ := h1
    refine main p [v] false [ev tm x] hw rfl rfl (by simp [cellsAre]) rfl (fun _ => rfl) (by rw [hv]; simp) ?_
    intro j a c hj hc
    obtain ⟨rfl, rfl⟩ := one_cell hc
    obtain rfl : v.alv = a := by simpa using hj
    by_cases hd : v.alv = .dead
    · exact .inr (.inl hd)
    obtain ⟨e, l, sz, rows, rfl⟩ := alv_of hd
    rw [e]
    obtain ⟨w1, w2', t, w3, w4⟩ := whole_ok hw
    have hcell : s.cell p = some (.sl l sz rows) := by
      have := whole_cell hw 0
      rw [shift_zero] at this; exact this
    have hpv := hsay l sz rows hcell
    by_cases ho : isOwnSl (.sl l sz rows) = true
    · exact .inr (.inr ⟨ho, rfl, by rw [shift_zero]; exact hpv⟩)
    · obtain ⟨c', f, k1, k2, _⟩ := cell_rep hI hcell (by simp)
      rw [hpv] at k1
      obtain rfl := Option.some.inj k1
      have hn : (V.sl l sz rows).noOwn = true := by cases l <;> simp [isOwnSl] at ho <;> rfl
      have := noOwn_fp hn k2
      subst this; exact .inl ⟨hn, k2⟩
  · rename_i p n hv
    split at h
    case h_2 => simp at h
    rename_i cur hw
    split at h
    case isFalse => simp at h
    rename_i hl
    simp only [Option.some.injEq, Prod.mk.injEq] at h
    obtain ⟨rfl, rfl⟩ := h
    obtain ⟨fp, h1, _⟩ := opd_tok hI hx hv
    simp only [TOk] at h1
    obtain ⟨_, hal, cs, e, hcs, hk⟩ := h1
    have hml : (mergeRow n cur).length = n.length := mergeRow_len hl
    refine main p cur true cs.toList hw rfl (by rw [hml, hl]) (by simp [cellsAre, e]) (by rw [hml]; simpa using hcs) (by simp) (by rw [hv]; simp) ?_
    intro j a c hj hc
    obtain ⟨a0, b, m1, m2, m3⟩ := mergeRow_get hj
    have := hk j a0 c m1 hc
    split at m3
    · rename_i ha
      subst m3
      rw [if_pos ha] at this; exact .inl ⟨ha, this⟩
    · rename_i ha
      rw [if_neg ha] at this
      by_cases hd : a = .dead
      · exact .inr (.inl hd)
      rw [m3] at hd
      obtain ⟨e2, l, sz, rows, rfl⟩ := alv_of hd
      rw [e2] at m3
      subst m3
      obtain ⟨w1, w2', t, w3, w4⟩ := whole_ok hw
      have hcell : s.cell (shift p j) = some (.sl l sz rows) := by rw [whole_cell hw j]; exact m2
      have hpv := this l sz rows hcell
      by_cases ho : isOwnSl (.sl l sz rows) = true
      · exact .inr (.inr ⟨ho, m2, hpv⟩)
      · obtain ⟨c', f, k1, k2, _⟩ := cell_rep hI hcell (by simp)
        rw [show p.at j = shift p j from rfl] at hpv
        rw [hpv] at k1
        obtain rfl := Option.some.inj k1
        have hn : (V.sl l sz rows).noOwn = true := by cases l <;> simp [isOwnSl] at ho <;> rfl
        have := noOwn_fp hn k2
        subst this; exact .inl ⟨hn, k2⟩
  · simp at h
theorem opds_get : ∀ {xs : List Operand} {Xs : List O} {i : Nat} {X : O}, OpdsOk xs Xs → Xs[i]? = some X → ∃ x, xs[i]? = some x ∧ OpdOk x X
  | [], [], _, _, _, h => by simp at h
  | x :: xs, X :: Xs, 0, Y, ho, h => by
    simp only [List.getElem?_cons_zero, Option.some.injEq] at h
    subst h; exact ⟨x, rfl, ho.1⟩
  | x :: xs, X :: Xs, i + 1, Y, ho, h => by
    obtain ⟨x', h1, h2⟩ := opds_get (i := i) ho.2 (by simpa using h)
    exact ⟨x', by simpa using h1, h2⟩
  | [], _ :: _, _, _, ho, _ => ho.elim
  | _ :: _, [], _, _, ho, _ => ho.elim
theorem takeIo_ok (hI : Inv E w β s tm g) {xs : List Operand} {Xs : List O} (hx : OpdsOk xs Xs) : ∀ {js : List Nat} {ios : List (Nat × List V)}, takeIo s Xs js = some ios →
    ios.length = js.length ∧ ∃ FI : List (List Nat), FI.length = ios.length ∧ ∀ (k i : Nat) (y : Nat × List V) (F : List Nat), js[k]? = some i → ios[k]? = some y → FI[k]? = some F → ∃ x X, xs[i]? = some x ∧ Xs[i]? = some X ∧ IoOk E w β s tm g x X y.1 y.2 F ∧ F.Sublist (g y.1)
  | [], ios, h => by
    simp only [takeIo, Option.some.injEq] at h
    subst h; exact ⟨rfl, [], rfl, by simp⟩
  | j :: js, ios, h => by
    simp only [takeIo] at h
    split at h
    case h_2 => simp at h
    rename_i X hX
    split at h
    case h_2 => simp at h
    rename_i y ys e1 e2
    obtain rfl := Option.some.inj h
    obtain ⟨k1, FI, k2, k3⟩ := takeIo_ok hI hx e2
    obtain ⟨x, hx1, hx2⟩ := opds_get hx hX
    obtain ⟨F, m1, m2⟩ := takeOne_ok hI hx2 (r := y.1) (row := y.2) e1
    refine ⟨by simp [k1], F :: FI, by simp [k2], fun k i y' F' h1 h2 h3 => ?_⟩
    cases k with
    | zero =>
      simp only [List.getElem?_cons_zero, Option.some.injEq] at h1 h2 h3
      subst h1; subst h2; subst h3
      exact ⟨x, X, hx1, hX, m1, m2⟩
    | succ k => exact k3 k i y' F' (by simpa using h1) (by simpa using h2) (by simpa using h3)
end
end Pv

set_option linter.unusedVariables false
set_option linter.unusedSimpArgs false
namespace Pv
open Go
def inB (β : Nat → Option Nat) (boxes : List Nat) (r : Nat) : Option Nat :=
  if r < 30000 then (if 10000 ≤ r then (match boxes[r - 10000]? with
    | some r0 => if r0 < 600000 then β r0 else none
    | none => none) else none)
  else if 610000 ≤ r then (match boxes[r - 610000]? with
    | some r0 => if 600000 ≤ r0 then β r0 else none
    | none => none) else none
theorem inB_at {β : Nat → Option Nat} {boxes : List Nat} {j r : Nat} (hl : boxes.length ≤ 1000) (h : boxes[j]? = some r) : inB β boxes ((if 600000 ≤ r then 610000 else 10000) + j) = β r := by
  have hj := (List.getElem?_eq_some_iff.1 h).1
  unfold inB
  by_cases hr : 600000 ≤ r
  · rw [if_pos hr, if_neg (by omega), if_pos (by omega), show 610000 + j - 610000 = j from by omega, h]
    simp [hr]
  · rw [if_neg hr, if_pos (by omega), if_pos (by omega), show 10000 + j - 10000 = j from by omega, h]
    simp only []
    rw [if_pos (by omega)]
theorem into_at {boxes : List Nat} {r : Nat} (h : r ∈ boxes) : ∃ j, boxes[j]? = some r ∧ intoBox boxes r = (if 600000 ≤ r then 610000 else 10000) + j :=
  ⟨boxes.idxOf r, by
    have := List.idxOf_lt_length_of_mem h
    rw [List.getElem?_eq_getElem this, List.getElem_idxOf this], rfl⟩
theorem inB_into {β : Nat → Option Nat} {boxes : List Nat} {r : Nat} (hl : boxes.length ≤ 1000) (h : r ∈ boxes) : inB β boxes (intoBox boxes r) = β r := by
  obtain ⟨j, h1, h2⟩ := into_at h
  rw [h2]; exact inB_at hl h1
theorem inB_only {β : Nat → Option Nat} {boxes : List Nat} {r b : Nat} (h : inB β boxes r = some b) : ∃ j r0, boxes[j]? = some r0 ∧ β r0 = some b ∧ r = (if 600000 ≤ r0 then 610000 else 10000) + j := by
  unfold inB at h
  split at h
  · split at h
    case isFalse => simp at h
    rename_i h1 h2
    split at h
    case h_2 => simp at h
    rename_i r0 hr
    split at h
    case isFalse => simp at h
    rename_i h3
    exact ⟨r - 10000, r0, hr, h, by rw [if_neg (by omega)]; omega⟩
  · split at h
    case isFalse => simp at h
    rename_i h1 h2
    split at h
    case h_2 => simp at h
    rename_i r0 hr
    split at h
    case isFalse => simp at h
    rename_i h3
    exact ⟨r - 610000, r0, hr, h, by rw [if_pos h3]; omega⟩
theorem extAt_mp {j : Nat} {row : List V} : extAt j row = (if T.isMp row then 610000 else 10000) + j := by
  unfold extAt T.isMp
  split <;> simp_all
section
variable {P : Program} {E E2 E3 : Env} {w w2 : World} {β β2 : Nat → Option Nat} {s s2 : St} {tm : Array Value} {g g2 : Nat → List Nat} {cx : Cx} {C : Orc}
theorem flat_nodup (hI : Inv E w β s tm g) : ∀ (R : List Nat) (Fs : List (List Nat)), R.Nodup → Fs.length = R.length → (∀ (k r : Nat) (F : List Nat), R[k]? = some r → Fs[k]? = some F → F.Sublist (g r)) → Fs.flatten.Nodup ∧ ∀ b ∈ Fs.flatten, ∃ r ∈ R, b ∈ g r
  | [], [], _, _, _ => by simp
  | [], _ :: _, _, hl, _ => by simp at hl
  | _ :: _, [], _, hl, _ => by simp at hl
  | r :: R, F :: Fs, hn, hl, h => by
    rw [List.nodup_cons] at hn
    obtain ⟨k1, k2⟩ := flat_nodup hI R Fs hn.2 (by simpa using hl) (fun k r F h1 h2 => h (k + 1) r F (by simpa using h1) (by simpa using h2))
    have h0 := h 0 r F rfl rfl
    simp only [List.flatten_cons]
    refine ⟨?_, fun b hb => ?_⟩
    · rw [List.nodup_append]
      refine ⟨(hI.nodup r).sublist h0, k1, fun a ha b hb e => ?_⟩
      subst e
      obtain ⟨r', h1, h2⟩ := k2 a hb
      have hne : r ≠ r' := fun e => hn.1 (by rw [e]; exact h1)
      exact hI.disj r r' hne a (h0.subset ha) h2
    · rcases List.mem_append.1 hb with hb | hb
      · exact ⟨r, by simp, h0.subset hb⟩
      · obtain ⟨r', h1, h2⟩ := k2 b hb
        exact ⟨r', List.mem_cons_of_mem _ h1, h2⟩
theorem tok_ren {f : Nat → Nat} {t : T} {cv : Value} {fp : List Nat} (hs : t.solid = true) (hb : ∀ r ∈ ptrsT t, β2 (f r) = β r) (h : TOk E w β [] #[] t cv fp) : TOk E w β2 [] #[] (t.ren f) cv fp ∧ (t.ren f).solid = true ∧ (t.ren f).isAgg = t.isAgg := by
  cases t <;> simp [T.solid] at hs
  · simp only [TOk, T.ren] at h ⊢
    exact ⟨Rep.ren _ _ _ hb h, rfl, rfl⟩
  · simp only [TOk, T.ren] at h ⊢
    obtain ⟨cs, e, h⟩ := h
    exact ⟨⟨cs, e, RepRow.ren _ _ _ hb h⟩, rfl, rfl⟩
theorem isMp_up {φ : Lab → Lab} {f : Nat → Nat} (row : List V) : T.isMp ((mapLRow φ row).map (V.ren f)) = T.isMp row := by
  cases row with
  | nil => rfl
  | cons v r =>
    cases r with
    | nil => cases v <;> rfl
    | cons b r => cases v <;> rfl
theorem mp_row {row : List V} {ka va : Bool} {ks vs : List (List V)} {φ : Lab → Lab} {f : Nat → Nat} (h : row = [.mp ka va ks vs]) : (mapLRow φ row).map (V.ren f) = [.mp ka va ks vs] := by subst h; rfl
theorem isMp_iff {row : List V} : T.isMp row = true ↔ ∃ ka va ks vs, row = [.mp ka va ks vs] := by
  constructor
  · intro h
    unfold T.isMp at h
    split at h
    · exact ⟨_, _, _, _, rfl⟩
    · simp at h
  · rintro ⟨ka, va, ks, vs, rfl⟩; rfl
theorem brow_mp {j : Nat} {ka va : Bool} {ks vs : List (List V)} {f : List Nat} : BRow E w β j [.mp ka va ks vs] f = ∃ b es clk, β (610000 + j) = some b ∧ f = [b] ∧ w.heap[b]? = some (.map es clk) ∧ b < w.heap.size ∧ Ents ka va ks vs es.toList := rfl
theorem brow_agg {j : Nat} {row : List V} {f : List Nat} (h : T.isMp row = false) : BRow E w β j row f = ∃ b cs f0, β (10000 + j) = some b ∧ f = b :: f0 ∧ RepRow E w β row cs f0 ∧ RowAt w b 0 cs ∧ Clean w b cs.length ∧ b < w.heap.size := by
  unfold BRow
  split
  · simp [T.isMp] at h
  · rfl
theorem RepRow.noMp {row : List V} {cs : List Value} {f : List Nat} (h : RepRow E w β row cs f) : T.isMp row = false := by
  unfold T.isMp
  split
  · simp only [RepRow] at h
    obtain ⟨_, _, _, _, _, _, h, _⟩ := h
    simp [Rep] at h
  · rfl
theorem RepPs.len : ∀ {a : List V} {b : List Value}, RepPs β a b → b.length = a.length
  | [], _, h => by simp only [RepPs] at h; simp [h]
  | _ :: r, _, ⟨v, vs, h1, h2, h3⟩ => by rw [h1]; simp [RepPs.len h3]
theorem RepPs.get : ∀ {a : List V} {b : List Value} {i : Nat} {v : V}, RepPs β a b → a[i]? = some v → ∃ c, b[i]? = some c ∧ RepP β v c
  | [], _, _, _, _, h => by simp at h
  | a :: r, _, i, v, ⟨c, vs, h1, h2, h3⟩, h => by
    subst h1
    cases i with
    | zero =>
      simp only [List.getElem?_cons_zero, Option.some.injEq] at h
      subst h; exact ⟨c, rfl, h2⟩
    | succ i =>
      obtain ⟨c', k1, k2⟩ := RepPs.get (a := r) (b := vs) (i := i) (v := v) h3 (by simpa using h)
      exact ⟨c', by simpa using k1, k2⟩
theorem RepP.rep {v : V} {c : Value} (h : RepP β v c) : Rep E w β v c [] := by
  cases v <;> simp only [RepP] at h
  · simp only [Rep]; exact ⟨h.1, h.1 ▸ h.2, trivial⟩
  · simp only [Rep, RepP]; exact ⟨trivial, h⟩
  · simp only [Rep, RepP]; exact ⟨trivial, h⟩
structure CallSt (E : Env) (w : World) (β : Nat → Option Nat) (s : St) (tm : Array Value) (g : Nat → List Nat) (io : List Nat) (xs : List Operand) (Xs : List O) (hs : List (List V × Bool × Option Pl)) (ios : List (Nat × List V)) (args : List T) (caps : List V) (capv : List Value)
    (boxes : List Nat) (rows : List (List V)) (cN : Nat → Value) (fN : Nat → List Nat) (FI : List (List Nat)) : Prop where
  inv : Inv E w β s tm g
  opds : OpdsOk xs Xs
  hand : handAll s io 0 Xs = some hs
  view : viewAll (nodesAll hs).length 0 hs = some args
  capr : RepPs β caps capv
  rowsEq : rowsOf s boxes = some rows
  nodes : ∀ (n : Nat) (x : Pl × V), (nodesAll hs)[n]? = some x → NodeOk E w β s tm g x (cN n) (fN n)
  ioLen : ios.length = io.length
  fiLen : FI.length = ios.length
  ioOk : ∀ (k i : Nat) (y : Nat × List V) (F : List Nat), io[k]? = some i → ios[k]? = some y → FI[k]? = some F → ∃ x X, xs[i]? = some x ∧ Xs[i]? = some X ∧ IoOk E w β s tm g x X y.1 y.2 F ∧ F.Sublist (g y.1)
  lent : ∀ r ∈ lentRoots hs, r ∉ boxes ∧ r ∉ ios.map (·.1)
  ioBox : ∀ r ∈ ios.map (·.1), r ∉ boxes
  ioNd : (ios.map (·.1)).Nodup
  boxNd : boxes.Nodup
  few : boxes.length ≤ 1000
  ioPtr : ∀ y ∈ ios, y.2.all V.noPtr = true
  ioDup : io.Nodup
  clsA : ∀ t ∈ args ++ caps.map T.one, ∀ r ∈ ptrsT t, r ∈ boxes
  clsR : ∀ row ∈ rows, ∀ r ∈ ptrRow row, r ∈ boxes
theorem CallSt.roots {io : List Nat} {xs : List Operand} {Xs : List O} {hs : List (List V × Bool × Option Pl)} {ios : List (Nat × List V)} {args : List T} {caps : List V} {capv : List Value}
    {boxes : List Nat} {rows : List (List V)} {cN : Nat → Value} {fN : Nat → List Nat} {FI : List (List Nat)} (S : CallSt E w β s tm g io xs Xs hs ios args caps capv boxes rows cN fN FI) :
    (boxes.map g ++ FI).flatten.Nodup ∧ (∀ b ∈ (boxes.map g ++ FI).flatten, ∃ r, (r ∈ boxes ∨ r ∈ ios.map (·.1)) ∧ b ∈ g r) ∧
    (∀ n x, (nodesAll hs)[n]? = some x → ∀ b ∈ fN n, b ∉ (boxes.map g ++ FI).flatten ∧ E.own b ∧ E.tag b = none ∧ b < w.heap.size) := by
  have hI := S.inv
  obtain ⟨k1, k2⟩ := flat_nodup hI (boxes ++ ios.map (·.1)) (boxes.map g ++ FI) (by
    rw [List.nodup_append]
    exact ⟨S.boxNd, S.ioNd, fun a ha b hb e => S.ioBox b hb (by rw [← e]; exact ha)⟩) (by simp [S.fiLen]) (by
    intro k r F h1 h2
    by_cases hk : k < boxes.length
    · rw [List.getElem?_append_left hk] at h1
      rw [List.getElem?_append_left (by simpa using hk), List.getElem?_map, h1] at h2
      simp only [Option.map_some, Option.some.injEq] at h2
      rw [h2]; exact List.Sublist.refl _
    · rw [List.getElem?_append_right (by omega)] at h1
      rw [List.getElem?_append_right (by simp; omega)] at h2
      simp only [List.length_map] at h2
      rw [List.getElem?_map, Option.map_eq_some_iff] at h1
      obtain ⟨y, h3, rfl⟩ := h1
      have hlt := (List.getElem?_eq_some_iff.1 h3).1
      obtain ⟨i, hi⟩ : ∃ i, io[k - boxes.length]? = some i := ⟨io[k - boxes.length]'(by rw [← S.ioLen]; exact hlt), by simp⟩
      obtain ⟨_, _, _, _, _, hsub⟩ := S.ioOk _ i y F hi h3 h2
      exact hsub)
  have k2' : ∀ b ∈ (boxes.map g ++ FI).flatten, ∃ r, (r ∈ boxes ∨ r ∈ ios.map (·.1)) ∧ b ∈ g r := fun b hb => by
    obtain ⟨r, h1, h2⟩ := k2 b hb
    exact ⟨r, List.mem_append.1 h1, h2⟩
  refine ⟨k1, k2', fun n x hx b hb => ?_⟩
  have hn := S.nodes n x hx
  have hbg := hn.sub b hb
  refine ⟨fun hb2 => ?_, hI.own _ b hbg⟩
  obtain ⟨r, h1, h2⟩ := k2' b hb2
  have hl := S.lent x.1.r (nodes_root hs n x hx)
  have hne : r ≠ x.1.r := by
    rintro rfl
    rcases h1 with h1 | h1
    · exact hl.1 h1
    · exact hl.2 h1
  exact hI.disj r x.1.r hne b h2 hbg
theorem bd_in {io : List Nat} {xs : List Operand} {Xs : List O} {hs : List (List V × Bool × Option Pl)} {ios : List (Nat × List V)} {args : List T} {caps : List V} {capv : List Value}
    {boxes : List Nat} {rows : List (List V)} {cN : Nat → Value} {fN : Nat → List Nat} {FI : List (List Nat)} (S : CallSt E w β s tm g io xs Xs hs ios args caps capv boxes rows cN fN FI) :
    BdIn (E.call (nodesAll hs).length cN fN) w (inB β boxes) io ((args ++ caps.map T.one).map (T.ren (intoBox boxes)))
      (rows.map (fun r => (mapLRow (Lab.up (nodesAll hs).length) r).map (V.ren (intoBox boxes))) ++ ios.map (fun x => (mapLRow (Lab.up (nodesAll hs).length) x.2).map (V.ren (intoBox boxes))))
      (xs.map (ev tm) ++ capv).toArray (boxes.map g ++ FI) := by
  have hI := S.inv
  obtain ⟨r1, r2, r3⟩ := S.roots
  obtain ⟨v1, v2⟩ := views_in hI S.opds S.hand S.view S.nodes
  obtain ⟨b1, b2⟩ := rowsOf_ok S.rowsEq
  have hcl := S.capr.len
  have hioL := S.ioLen
  have hT := call_turn E (nodesAll hs).length cN fN
  have hex : (rows.map (fun r => (mapLRow (Lab.up (nodesAll hs).length) r).map (V.ren (intoBox boxes))) ++ ios.map (fun x => (mapLRow (Lab.up (nodesAll hs).length) x.2).map (V.ren (intoBox boxes)))).length - io.length = boxes.length := by
    simp only [List.length_append, List.length_map]; omega
  refine ⟨?_, ?_, ?_, ?_, S.ioDup, ?_, ?_, ?_, r1, ?_, ?_, ?_⟩
  · simp only [List.size_toArray, List.length_append, List.length_map]; omega
  · simp only [List.length_append, List.length_map, S.fiLen]; omega
  · simp only [List.length_append, List.length_map]; omega
  · rw [hex]; exact S.few
  · intro i t ht hn
    rw [List.getElem?_map, Option.map_eq_some_iff] at ht
    obtain ⟨t0, ht0, rfl⟩ := ht
    have hmem := List.mem_of_getElem? ht0
    by_cases hi : i < args.length
    · rw [List.getElem?_append_left hi] at ht0
      obtain ⟨q1, q2, _⟩ := v2 i t0 ht0
      obtain ⟨x, q3, q4⟩ := q2 hn
      refine ⟨ev tm x, ?_, ?_⟩
      · simp only [List.getElem?_toArray]
        rw [List.getElem?_append_left (by simp; omega), List.getElem?_map, q3]; rfl
      · obtain ⟨z1, z2, _⟩ := tok_ren (f := intoBox boxes) (β2 := inB β boxes) q1 (fun r hr => inB_into S.few (S.clsA t0 hmem r hr)) q4
        exact ⟨z2, z1⟩
    · rw [List.getElem?_append_right (by omega), List.getElem?_map, Option.map_eq_some_iff] at ht0
      obtain ⟨v, hv, rfl⟩ := ht0
      obtain ⟨c, hc, hr⟩ := RepPs.get S.capr hv
      refine ⟨c, ?_, ?_⟩
      · simp only [List.getElem?_toArray]
        rw [List.getElem?_append_right (by simp; omega)]
        simp only [List.length_map, ← v1]; exact hc
      · obtain ⟨z1, z2, _⟩ := tok_ren (E := E.call (nodesAll hs).length cN fN) (w := w) (β := β) (t := .one v) (cv := c) (fp := []) (f := intoBox boxes) (β2 := inB β boxes) rfl (fun r hr' => inB_into S.few (S.clsA _ hmem r hr')) (by simp only [TOk]; exact hr.rep)
        exact ⟨z2, z1⟩
  · intro j row f hj hrow hf
    rw [hex] at hj
    rw [List.getElem?_append_left (by simp; omega), List.getElem?_map, Option.map_eq_some_iff] at hrow
    obtain ⟨row0, h0, rfl⟩ := hrow
    rw [List.getElem?_append_left (by simpa using hj), List.getElem?_map, Option.map_eq_some_iff] at hf
    obtain ⟨r, hr, rfl⟩ := hf
    have hbr := b2 j r row0 hr h0
    have hβ := inB_at (β := β) S.few hr
    rcases boxRow_ok hbr with ⟨ka, va, ks, vs, v, hg, hr6, rfl⟩ | ⟨v, hg, hbx⟩
    · have hroot := hI.roots r _ _ hg
      have hnb : isBox r = false := by simp [isBox]; omega
      simp only [RootOk, hnb, Bool.false_eq_true, if_false, TOk] at hroot
      obtain ⟨b, es, clk, h1, h2, h3, h4, h5⟩ := hroot
      rw [mp_row rfl, brow_mp]
      rw [if_pos hr6] at hβ
      exact ⟨b, es, clk, by rw [hβ]; exact h1, h2, h3, h4, h5⟩
    · have hroot := hI.roots r _ _ hg
      simp only [RootOk, hbx, if_true] at hroot
      obtain ⟨b, cs, f0, row', h1, h2, h3, h4, h5, h6, h7⟩ := hroot
      simp only [T.agg.injEq] at h2
      subst h2
      have hr6 : ¬ 600000 ≤ r := by have := isBox_ge hbx; omega
      rw [if_neg hr6] at hβ
      have hrep : RepRow (E.call (nodesAll hs).length cN fN) w (inB β boxes) ((mapLRow (Lab.up (nodesAll hs).length) row0).map (V.ren (intoBox boxes))) cs f0 := by
        refine RepRow.ren (β := β) _ _ _ (fun x hx => ?_) (RepRow.mapL hT _ _ _ (anyLRow_none _) h4)
        rw [ptrRow_mapL] at hx
        exact inB_into S.few (S.clsR row0 (List.mem_of_getElem? h0) x hx)
      rw [brow_agg hrep.noMp]
      exact ⟨b, cs, f0, by rw [hβ]; exact h1, h3, hrep, h5, h6, h7⟩
  · intro k i row f hk hrow hf
    rw [hex] at hrow hf
    rw [List.getElem?_append_right (by simp; omega)] at hrow
    simp only [List.length_map, b1, Nat.add_sub_cancel_left, List.getElem?_map, Option.map_eq_some_iff] at hrow
    obtain ⟨y, hy, rfl⟩ := hrow
    rw [List.getElem?_append_right (by simp)] at hf
    simp only [List.length_map, Nat.add_sub_cancel_left] at hf
    obtain ⟨x, X, q1, q2, q3, _⟩ := S.ioOk k i y f hk hy hf
    obtain ⟨ag, cs, cur, ds, fc, t, v, z1, z2, z3, z4, z5, z6, z7, _⟩ := q3.ex
    have hxl := (List.getElem?_eq_some_iff.1 q1).1
    obtain ⟨t0, ht0⟩ : ∃ t0, args[i]? = some t0 := ⟨args[i]'(by omega), by simp⟩
    obtain ⟨p1, _, p3⟩ := v2 i t0 ht0
    obtain ⟨X', p4, p5⟩ := p3 (List.mem_of_getElem? hk)
    rw [q2] at p4
    obtain rfl := Option.some.inj p4
    have hag : t0.isAgg = ag := by
      cases ag <;> cases h : t0.isAgg <;> simp_all
    have hragg : (t0.ren (intoBox boxes)).isAgg = t0.isAgg := by cases t0 <;> rfl
    refine ⟨t0.ren (intoBox boxes), ev tm x, ?_, ?_, cs, ?_, ?_, ?_⟩
    · rw [List.getElem?_map, List.getElem?_append_left (by omega), ht0]; rfl
    · simp only [List.getElem?_toArray]
      rw [List.getElem?_append_left (by simp; omega), List.getElem?_map, q1]; rfl
    · rw [hragg, hag]; exact z4
    · refine RepRow.ren (β := β) _ _ _ (fun x hx => ?_) (RepRow.mapL hT _ _ _ (anyLRow_none _) z5)
      exfalso
      rw [ptrRow_mapL] at hx
      have hnp := S.ioPtr y (List.mem_of_getElem? hy)
      simp only [ptrRow, List.mem_flatMap] at hx
      obtain ⟨u, hu, hx⟩ := hx
      have := List.all_eq_true.1 hnp u hu
      cases u <;> simp [V.noPtr, ptrsV] at this hx
    · rw [hragg, hag]; intro h; rw [List.length_map, mapLRow_len]; exact z6 h
  · intro b hb
    obtain ⟨r, h1, h2⟩ := r2 b hb
    obtain ⟨k1, k2, k3⟩ := hI.own r b h2
    refine ⟨k1, call_none (fun t ht hbt => ?_) k2, k3⟩
    obtain ⟨x, hx⟩ : ∃ x, (nodesAll hs)[t]? = some x := ⟨(nodesAll hs)[t], by simp⟩
    exact (r3 t x hx b hbt).1 hb
  · intro b hb
    refine call_none (fun t ht hbt => ?_) (hI.small b hb)
    obtain ⟨x, hx⟩ : ∃ x, (nodesAll hs)[t]? = some x := ⟨(nodesAll hs)[t], by simp⟩
    have := (r3 t x hx b hbt).2.2.2
    omega
  · intro r b hb
    obtain ⟨j, r0, h1, h2, rfl⟩ := inB_only hb
    have hlt := (List.getElem?_eq_some_iff.1 h1).1
    obtain ⟨row0, h0⟩ : ∃ row0, rows[j]? = some row0 := ⟨rows[j]'(by omega), by simp⟩
    refine ⟨j, (mapLRow (Lab.up (nodesAll hs).length) row0).map (V.ren (intoBox boxes)), by rw [hex]; exact hlt, ?_, ?_⟩
    · rw [List.getElem?_append_left (by simp; omega), List.getElem?_map, h0]; rfl
    · rw [extAt_mp, isMp_up]
      congr 1
      rcases boxRow_ok (b2 j r0 row0 h1 h0) with ⟨ka, va, ks, vs, v, hg, hr6, rfl⟩ | ⟨v, hg, hbx⟩
      · simp [hr6, T.isMp]
      · have hroot := hI.roots r0 _ _ hg
        simp only [RootOk, hbx, if_true] at hroot
        obtain ⟨_, _, _, row', _, h2', _, h4, _⟩ := hroot
        simp only [T.agg.injEq] at h2'
        subst h2'
        have hr6 : ¬ 600000 ≤ r0 := by have := isBox_ge hbx; omega
        rw [if_neg hr6, h4.noMp]; rfl
end
end Pv
