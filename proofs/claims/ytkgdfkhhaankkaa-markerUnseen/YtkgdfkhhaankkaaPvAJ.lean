
import Derived.Test.YtkgdfkhhaankkaaPvAI
set_option linter.all false
namespace Pv
open Go
structure Env where
  own : Nat → Prop
  tag : Nat → Option (Nat → Prop)
  hdr : Nat → Value
def RowAt (w : World) (b o : Nat) (cs : List Value) : Prop := ∀ j v, cs[j]? = some v → w.cell? ⟨b, o + j, none⟩ = some v
def Clean (w : World) (b n : Nat) : Prop := ∃ c e, w.heap[b]? = some (.cells c e (0, 0)) ∧ n ≤ c.size
def LabOk (E : Env) (l : Lab) (b : Nat) : Prop := match l with
  | .own => False
  | .ro => ¬ E.own b
  | .lent t => ¬ E.own b ∨ ∃ q, E.tag b = some q ∧ q t
  | .part t => ¬ E.own b ∨ ∃ q, E.tag b = some q ∧ q t
def isSca : Value → Bool
  | .bool _ | .int _ _ | .string _ | .nilFunc | .nilIface | .pointer none | .map none => true
  | _ => false
def SlOk (E : Env) (w : World) (l : Lab) (sz len cap : Nat) (cs : List Value) (f fp : List Nat) : Option Addr → Prop
  | none => len = 0 ∧ cap = 0 ∧ fp = []
  | some a => a.spot = none ∧ RowAt w a.block a.off cs ∧ a.block < w.heap.size ∧
      ((l = .own ∧ fp = a.block :: f ∧ Clean w a.block (a.off + cap * sz)) ∨ (l ≠ .own ∧ fp = [] ∧ f = [] ∧ LabOk E l a.block))
def RepP (β : Nat → Option Nat) : V → Value → Prop
  | .ptr r o, v => ∃ b, β r = some b ∧ v = .pointer (some ⟨b, o, none⟩)
  | .mref r, v => ∃ b, β r = some b ∧ v = .map (some b)
  | .sc x, v => v = x ∧ isSca x = true
  | _, _ => False
def RepPs (β : Nat → Option Nat) : List V → List Value → Prop
  | [], vs => vs = []
  | x :: xs, vs => ∃ v vs', vs = v :: vs' ∧ RepP β x v ∧ RepPs β xs vs'
mutual
def Rep (E : Env) (w : World) (β : Nat → Option Nat) : V → Value → List Nat → Prop
  | .sc v, cv, fp => cv = v ∧ isSca v = true ∧ fp = []
  | .sl l sz rows, cv, fp => ∃ a len cap cs f, cv = .slice a len cap ∧ rows.length = len ∧ len ≤ cap ∧ RepRows E w β sz rows cs f ∧
      SlOk E w l sz len cap cs f fp a ∧ (∀ t, l = .lent t → E.hdr t = cv)
  | .ptr r o, cv, fp => fp = [] ∧ RepP β (.ptr r o) cv
  | .mref r, cv, fp => fp = [] ∧ RepP β (.mref r) cv
  | .clo g a b, cv, fp => fp = [] ∧ ∃ xs ys, cv = .func (.func g) xs ys ∧ RepPs β a xs.toList ∧ RepPs β b ys.toList
  | .mp .., _, _ => False
  | .dead, _, fp => fp = []
termination_by structural x => x
def RepRow (E : Env) (w : World) (β : Nat → Option Nat) : List V → List Value → List Nat → Prop
  | [], cs, fp => cs = [] ∧ fp = []
  | v :: r, cs, fp => ∃ c cs' f f', cs = c :: cs' ∧ fp = f ++ f' ∧ Rep E w β v c f ∧ RepRow E w β r cs' f'
termination_by structural x => x
def RepRows (E : Env) (w : World) (β : Nat → Option Nat) (sz : Nat) : List (List V) → List Value → List Nat → Prop
  | [], cs, fp => cs = [] ∧ fp = []
  | r :: rs, cs, fp => ∃ c cs' f f', cs = c ++ cs' ∧ fp = f ++ f' ∧ r.length = sz ∧ r.all V.noPtr = true ∧ RepRow E w β r c f ∧ RepRows E w β sz rs cs' f'
termination_by structural x => x
end
structure Stp (E : Env) (w : World) (E2 : Env) (w2 : World) : Prop where
  size : w.heap.size ≤ w2.heap.size
  stab : ∀ b, b < w.heap.size → ¬ E.own b → w2.heap[b]? = w.heap[b]? ∧ ¬ E2.own b
  tagd : ∀ b, b < w.heap.size → E.tag b ≠ none → w2.heap[b]? = w.heap[b]?
  tag : ∀ b, b < w.heap.size → E2.tag b = E.tag b
  hdr : E2.hdr = E.hdr
theorem cell_same {w w2 : World} {b : Nat} (h : w2.heap[b]? = w.heap[b]?) (o : Nat) : w2.cell? ⟨b, o, none⟩ = w.cell? ⟨b, o, none⟩ := by
  simp only [World.cell?, h]
theorem RowAt.same {w w2 : World} {b o : Nat} {cs : List Value} (h : w2.heap[b]? = w.heap[b]?) (hr : RowAt w b o cs) : RowAt w2 b o cs := by
  intro j v hj; rw [cell_same h]; exact hr j v hj
theorem Clean.same {w w2 : World} {b n : Nat} (h : w2.heap[b]? = w.heap[b]?) (hc : Clean w b n) : Clean w2 b n := by
  obtain ⟨c, e, h1, h2⟩ := hc; exact ⟨c, e, by rw [h, h1], h2⟩
theorem RepP.mono {β β2 : Nat → Option Nat} (hb : ∀ r b, β r = some b → β2 r = some b) : ∀ (v : V) (x : Value), RepP β v x → RepP β2 v x
  | .ptr _ _, _, ⟨b, h1, h2⟩ => ⟨b, hb _ _ h1, h2⟩
  | .mref _, _, ⟨b, h1, h2⟩ => ⟨b, hb _ _ h1, h2⟩
  | .sc _, _, h => h
  | .sl .., _, h => h.elim
  | .clo .., _, h => h.elim
  | .mp .., _, h => h.elim
  | .dead, _, h => h.elim
theorem RepPs.mono {β β2 : Nat → Option Nat} (hb : ∀ r b, β r = some b → β2 r = some b) : ∀ (v : List V) (x : List Value), RepPs β v x → RepPs β2 v x
  | [], _, h => h
  | _ :: _, _, ⟨v, vs, h1, h2, h3⟩ => ⟨v, vs, h1, RepP.mono hb _ _ h2, RepPs.mono hb _ _ h3⟩
section frame
variable {E E2 : Env} {w w2 : World} {β β2 : Nat → Option Nat}
mutual
theorem Rep.frame (hs : Stp E w E2 w2) (hb : ∀ r b, β r = some b → β2 r = some b) : ∀ (v : V) (cv : Value) (fp : List Nat),
    (∀ b ∈ fp, w2.heap[b]? = w.heap[b]?) → Rep E w β v cv fp → Rep E2 w2 β2 v cv fp
  | .sc _, _, _, _, h => by simpa [Rep] using h
  | .sl l sz rows, cv, fp, hf, h => by
    simp only [Rep] at h ⊢
    obtain ⟨a, len, cap, cs, f, h1, h2, h3, h4, h5, h6⟩ := h
    refine ⟨a, len, cap, cs, f, h1, h2, h3, ?_, ?_, by rw [hs.hdr]; exact h6⟩
    · refine RepRows.frame hs hb sz rows cs f (fun b hbf => ?_) h4
      cases a with
      | none =>
        simp only [SlOk] at h5
        have : rows = [] := List.length_eq_zero_iff.1 (h2.trans h5.1)
        subst this
        simp only [RepRows] at h4
        rw [h4.2] at hbf; simp at hbf
      | some a =>
        simp only [SlOk] at h5
        rcases h5.2.2.2 with ⟨_, h7, _⟩ | ⟨_, _, h7, _⟩
        · exact hf b (by rw [h7]; exact List.mem_cons_of_mem _ hbf)
        · rw [h7] at hbf; simp at hbf
    · cases a with
      | none => exact h5
      | some a =>
        simp only [SlOk] at h5 ⊢
        obtain ⟨g1, g2, g3, g4⟩ := h5
        have hsame : w2.heap[a.block]? = w.heap[a.block]? := by
          rcases g4 with ⟨_, h7, _⟩ | ⟨_, _, _, h7⟩
          · exact hf _ (by rw [h7]; exact List.mem_cons_self)
          · cases l with
            | own => exact h7.elim
            | ro => exact (hs.stab _ g3 h7).1
            | lent t => rcases h7 with h7 | h7
                        · exact (hs.stab _ g3 h7).1
                        · exact hs.tagd _ g3 (by obtain ⟨q, h7, _⟩ := h7; rw [h7]; simp)
            | part t => rcases h7 with h7 | h7
                        · exact (hs.stab _ g3 h7).1
                        · exact hs.tagd _ g3 (by obtain ⟨q, h7, _⟩ := h7; rw [h7]; simp)
        refine ⟨g1, g2.same hsame, Nat.lt_of_lt_of_le g3 hs.size, ?_⟩
        rcases g4 with ⟨h8, h7, h9⟩ | ⟨h8, h9, h10, h7⟩
        · exact .inl ⟨h8, h7, h9.same hsame⟩
        · refine .inr ⟨h8, h9, h10, ?_⟩
          cases l with
          | own => exact h7.elim
          | ro => exact (hs.stab _ g3 h7).2
          | lent t => exact h7.imp (fun h => (hs.stab _ g3 h).2) (fun h => by rw [hs.tag _ g3]; exact h)
          | part t => exact h7.imp (fun h => (hs.stab _ g3 h).2) (fun h => by rw [hs.tag _ g3]; exact h)
  | .ptr _ _, _, _, _, h => by
    simp only [Rep] at h ⊢; exact ⟨h.1, RepP.mono hb _ _ h.2⟩
  | .clo _ _ _, _, _, _, h => by
    simp only [Rep] at h ⊢
    obtain ⟨h1, xs, ys, h2, h3, h4⟩ := h
    exact ⟨h1, xs, ys, h2, RepPs.mono hb _ _ h3, RepPs.mono hb _ _ h4⟩
  | .mref _, _, _, _, h => by
    simp only [Rep] at h ⊢; exact ⟨h.1, RepP.mono hb _ _ h.2⟩
  | .mp .., _, _, _, h => by simp [Rep] at h
  | .dead, _, _, _, h => by simpa [Rep] using h
theorem RepRow.frame (hs : Stp E w E2 w2) (hb : ∀ r b, β r = some b → β2 r = some b) : ∀ (v : List V) (cs : List Value) (fp : List Nat),
    (∀ b ∈ fp, w2.heap[b]? = w.heap[b]?) → RepRow E w β v cs fp → RepRow E2 w2 β2 v cs fp
  | [], _, _, _, h => by simpa [RepRow] using h
  | v :: r, cs, fp, hf, h => by
    simp only [RepRow] at h ⊢
    obtain ⟨c, cs', f, f', h1, h2, h3, h4⟩ := h
    exact ⟨c, cs', f, f', h1, h2, Rep.frame hs hb v c f (fun b hm => hf b (by rw [h2]; exact List.mem_append.2 (.inl hm))) h3,
      RepRow.frame hs hb r cs' f' (fun b hm => hf b (by rw [h2]; exact List.mem_append.2 (.inr hm))) h4⟩
theorem RepRows.frame (hs : Stp E w E2 w2) (hb : ∀ r b, β r = some b → β2 r = some b) (sz : Nat) : ∀ (v : List (List V)) (cs : List Value) (fp : List Nat),
    (∀ b ∈ fp, w2.heap[b]? = w.heap[b]?) → RepRows E w β sz v cs fp → RepRows E2 w2 β2 sz v cs fp
  | [], _, _, _, h => by simpa [RepRows] using h
  | v :: r, cs, fp, hf, h => by
    simp only [RepRows] at h ⊢
    obtain ⟨c, cs', f, f', h1, h2, h3, h4, h5, h6⟩ := h
    exact ⟨c, cs', f, f', h1, h2, h3, h4, RepRow.frame hs hb v c f (fun b hm => hf b (by rw [h2]; exact List.mem_append.2 (.inl hm))) h5,
      RepRows.frame hs hb sz r cs' f' (fun b hm => hf b (by rw [h2]; exact List.mem_append.2 (.inr hm))) h6⟩
end
end frame
section rows
variable {E : Env} {w : World} {β : Nat → Option Nat}
theorem RepRow.len : ∀ {v : List V} {cs : List Value} {fp : List Nat}, RepRow E w β v cs fp → cs.length = v.length
  | [], _, _, h => by simp only [RepRow] at h; simp [h.1]
  | v :: r, cs, fp, h => by
    simp only [RepRow] at h
    obtain ⟨c, cs', f, f', h1, h2, h3, h4⟩ := h
    simp [h1, RepRow.len h4]
theorem RepRows.len {sz : Nat} : ∀ {v : List (List V)} {cs : List Value} {fp : List Nat}, RepRows E w β sz v cs fp → cs.length = v.length * sz
  | [], _, _, h => by simp only [RepRows] at h; simp [h.1]
  | v :: r, cs, fp, h => by
    simp only [RepRows] at h
    obtain ⟨c, cs', f, f', h1, h2, h3, _, h5, h6⟩ := h
    simp [h1, RepRows.len h6, RepRow.len h5, h3, Nat.succ_mul, Nat.add_comm]
theorem RepRow.append : ∀ {a b : List V} {cs ds : List Value} {f g : List Nat}, RepRow E w β a cs f → RepRow E w β b ds g → RepRow E w β (a ++ b) (cs ++ ds) (f ++ g)
  | [], _, _, _, _, _, h, k => by simp only [RepRow] at h; simpa [h.1, h.2] using k
  | v :: r, b, cs, ds, f, g, h, k => by
    simp only [RepRow, List.cons_append] at h ⊢
    obtain ⟨c, cs', f1, f2, h1, h2, h3, h4⟩ := h
    exact ⟨c, cs' ++ ds, f1, f2 ++ g, by simp [h1], by simp [h2], h3, RepRow.append h4 k⟩
theorem RepRow.split : ∀ {a b : List V} {cs : List Value} {f : List Nat}, RepRow E w β (a ++ b) cs f →
    ∃ c d f1 f2, cs = c ++ d ∧ f = f1 ++ f2 ∧ RepRow E w β a c f1 ∧ RepRow E w β b d f2
  | [], _, cs, f, h => ⟨[], cs, [], f, rfl, rfl, by simp [RepRow], h⟩
  | v :: r, b, cs, f, h => by
    simp only [RepRow, List.cons_append] at h
    obtain ⟨c, cs', f1, f2, h1, h2, h3, h4⟩ := h
    obtain ⟨c', d, g1, g2, k1, k2, k3, k4⟩ := RepRow.split h4
    exact ⟨c :: c', d, f1 ++ g1, g2, by simp [h1, k1], by simp [h2, k2], by simp only [RepRow]; exact ⟨c, c', f1, g1, rfl, rfl, h3, k3⟩, k4⟩
theorem RepRows.append {sz : Nat} : ∀ {a b : List (List V)} {cs ds : List Value} {f g : List Nat}, RepRows E w β sz a cs f → RepRows E w β sz b ds g → RepRows E w β sz (a ++ b) (cs ++ ds) (f ++ g)
  | [], _, _, _, _, _, h, k => by simp only [RepRows] at h; simpa [h.1, h.2] using k
  | v :: r, b, cs, ds, f, g, h, k => by
    simp only [RepRows, List.cons_append] at h ⊢
    obtain ⟨c, cs', f1, f2, h1, h2, h3, h3', h4, h5⟩ := h
    exact ⟨c, cs' ++ ds, f1, f2 ++ g, by simp [h1], by simp [h2], h3, h3', h4, RepRows.append h5 k⟩
theorem RepRows.split {sz : Nat} : ∀ {a b : List (List V)} {cs : List Value} {f : List Nat}, RepRows E w β sz (a ++ b) cs f →
    ∃ c d f1 f2, cs = c ++ d ∧ f = f1 ++ f2 ∧ RepRows E w β sz a c f1 ∧ RepRows E w β sz b d f2
  | [], _, cs, f, h => ⟨[], cs, [], f, rfl, rfl, by simp [RepRows], h⟩
  | v :: r, b, cs, f, h => by
    simp only [RepRows, List.cons_append] at h
    obtain ⟨c, cs', f1, f2, h1, h2, h3, h3', h4, h5⟩ := h
    obtain ⟨c', d, g1, g2, k1, k2, k3, k4⟩ := RepRows.split h5
    exact ⟨c ++ c', d, f1 ++ g1, g2, by simp [h1, k1], by simp [h2, k2], by simp only [RepRows]; exact ⟨c, c', f1, g1, rfl, rfl, h3, h3', h4, k3⟩, k4⟩
theorem RowAt.append {b o : Nat} {c d : List Value} : RowAt w b o (c ++ d) ↔ RowAt w b o c ∧ RowAt w b (o + c.length) d := by
  constructor
  · intro h
    refine ⟨fun j v hj => h j v ?_, fun j v hj => ?_⟩
    · rw [List.getElem?_append_left]; exact hj
      exact (List.getElem?_eq_some_iff.1 hj).1
    · have := h (c.length + j) v (by rw [List.getElem?_append_right (by omega)]; simpa using hj)
      rwa [← Nat.add_assoc] at this
  · rintro ⟨h, k⟩ j v hj
    by_cases hl : j < c.length
    · rw [List.getElem?_append_left hl] at hj; exact h j v hj
    · rw [List.getElem?_append_right (by omega)] at hj
      have := k (j - c.length) v hj
      rwa [show o + c.length + (j - c.length) = o + j from by omega] at this
theorem RepRows.at {sz : Nat} {rows : List (List V)} {cs : List Value} {f : List Nat} (h : RepRows E w β sz rows cs f) {i : Nat} {r : List V} (hi : rows[i]? = some r) :
    ∃ c1 c c2 f1 g f2, cs = c1 ++ c ++ c2 ∧ f = f1 ++ g ++ f2 ∧ c1.length = i * sz ∧ r.length = sz ∧ r.all V.noPtr = true ∧ RepRow E w β r c g ∧
      RepRows E w β sz (rows.take i) c1 f1 ∧ RepRows E w β sz (rows.drop (i + 1)) c2 f2 := by
  obtain ⟨hlt, hget⟩ := List.getElem?_eq_some_iff.1 hi
  have e : rows = rows.take i ++ (r :: rows.drop (i + 1)) := by
    rw [← hget, List.getElem_cons_drop, List.take_append_drop]
  rw [e] at h
  obtain ⟨c1, d, f1, d2, h1, h2, h3, h4⟩ := RepRows.split h
  simp only [RepRows] at h4
  obtain ⟨c, c2, g, f2, k1, k2, k3, k3', k4, k5⟩ := h4
  refine ⟨c1, c, c2, f1, g, f2, by rw [h1, k1, List.append_assoc], by rw [h2, k2, List.append_assoc], ?_, k3, k3', k4, h3, k5⟩
  rw [RepRows.len h3, List.length_take, Nat.min_eq_left (Nat.le_of_lt hlt)]
theorem RepRow.at {row : List V} {cs : List Value} {f : List Nat} (h : RepRow E w β row cs f) {i : Nat} {v : V} (hi : row[i]? = some v) :
    ∃ c1 c c2 f1 g f2, cs = c1 ++ c :: c2 ∧ f = f1 ++ g ++ f2 ∧ c1.length = i ∧ Rep E w β v c g ∧ RepRow E w β (row.take i) c1 f1 ∧ RepRow E w β (row.drop (i + 1)) c2 f2 := by
  obtain ⟨hlt, hget⟩ := List.getElem?_eq_some_iff.1 hi
  have e : row = row.take i ++ (v :: row.drop (i + 1)) := by
    rw [← hget, List.getElem_cons_drop, List.take_append_drop]
  rw [e] at h
  obtain ⟨c1, d, f1, d2, h1, h2, h3, h4⟩ := RepRow.split h
  simp only [RepRow] at h4
  obtain ⟨c, c2, g, f2, k1, k2, k4, k5⟩ := h4
  refine ⟨c1, c, c2, f1, g, f2, by rw [h1, k1], by rw [h2, k2, List.append_assoc], ?_, k4, h3, k5⟩
  rw [RepRow.len h3, List.length_take, Nat.min_eq_left (Nat.le_of_lt hlt)]
theorem RepRow.set {row : List V} {i : Nat} {v2 : V} {c1 c2 : List Value} {c : Value} {f1 g f2 : List Nat} (hi : i < row.length)
    (h1 : RepRow E w β (row.take i) c1 f1) (h : Rep E w β v2 c g) (h2 : RepRow E w β (row.drop (i + 1)) c2 f2) : RepRow E w β (row.set i v2) (c1 ++ c :: c2) (f1 ++ g ++ f2) := by
  rw [List.set_eq_take_append_cons_drop, if_pos hi, List.append_assoc]
  exact RepRow.append h1 (by simp only [RepRow]; exact ⟨c, c2, g, f2, rfl, rfl, h, h2⟩)
theorem RepRows.set {sz : Nat} {rows : List (List V)} {i : Nat} {r2 : List V} {c1 c c2 : List Value} {f1 g f2 : List Nat} (hi : i < rows.length) (hl : r2.length = sz) (hn : r2.all V.noPtr = true)
    (h1 : RepRows E w β sz (rows.take i) c1 f1) (h : RepRow E w β r2 c g) (h2 : RepRows E w β sz (rows.drop (i + 1)) c2 f2) : RepRows E w β sz (rows.set i r2) (c1 ++ c ++ c2) (f1 ++ g ++ f2) := by
  rw [List.set_eq_take_append_cons_drop, if_pos hi, List.append_assoc, List.append_assoc]
  exact RepRows.append h1 (by simp only [RepRows]; exact ⟨c, c2, g, f2, rfl, rfl, hl, hn, h, h2⟩)
end rows
end Pv

namespace Pv
open Go
def stepA (v : Value) (st : Nat × Nat × Nat) : Option (Nat × Nat) := match v with
  | .slice (some a) _ _ => some (a.block, a.off + st.1 * st.2.1 + st.2.2)
  | _ => none
def follow (w : World) : Value → List (Nat × Nat × Nat) → Option (Nat × Nat)
  | _, [] => none
  | v, [st] => stepA v st
  | v, st :: st2 :: p => match stepA v st with
    | some (b, o) => (match w.cell? ⟨b, o, none⟩ with
      | some v' => follow w v' (st2 :: p)
      | none => none)
    | none => none
theorem setRow_len {xs : List V} : ∀ {p : List (Nat × Nat × Nat)} {row row2 : List V} {off : Nat}, setRow row off p xs = some row2 → row2.length = row.length
  | [], row, row2, off, h => by
    simp only [setRow] at h
    split at h
    · obtain rfl := Option.some.inj h
      simp only [splice, List.length_append, List.length_take, List.length_drop]; omega
    · simp at h
  | (i, sz, o) :: p, row, row2, off, h => by
    simp only [setRow] at h
    split at h
    · split at h
      · split at h
        · split at h
          · obtain rfl := Option.some.inj h; simp
          · simp at h
        · simp at h
      · simp at h
    · simp at h
theorem splice_noPtr {row xs : List V} {off : Nat} (h : row.all V.noPtr = true) (hx : xs.all V.noPtr = true) : (splice row off xs).all V.noPtr = true := by
  simp only [splice, List.all_append, hx, Bool.and_true]
  rw [List.all_eq_true] at h
  simp only [Bool.and_eq_true, List.all_eq_true]
  exact ⟨fun v hv => h v (List.mem_of_mem_take hv), fun v hv => h v (List.mem_of_mem_drop hv)⟩
theorem set_noPtr {row : List V} {off : Nat} {v : V} (h : row.all V.noPtr = true) (hx : v.noPtr = true) : (row.set off v).all V.noPtr = true := by
  rw [List.all_eq_true] at h ⊢
  intro u hu
  rcases List.mem_or_eq_of_mem_set hu with h1 | h1
  · exact h u h1
  · rw [h1]; exact hx
theorem setRow_noPtr {xs : List V} (hx : xs.all V.noPtr = true) : ∀ {p : List (Nat × Nat × Nat)} {row row2 : List V} {off : Nat}, row.all V.noPtr = true → setRow row off p xs = some row2 → row2.all V.noPtr = true
  | [], row, row2, off, hr, h => by
    simp only [setRow] at h
    split at h
    · obtain rfl := Option.some.inj h; exact splice_noPtr hr hx
    · simp at h
  | (i, sz, o) :: p, row, row2, off, hr, h => by
    simp only [setRow] at h
    split at h
    · split at h
      · split at h
        · split at h
          · obtain rfl := Option.some.inj h; exact set_noPtr hr rfl
          · simp at h
        · simp at h
      · simp at h
    · simp at h
section place
variable {E : Env} {w : World} {β : Nat → Option Nat}
theorem Rep.own {sz : Nat} {rows : List (List V)} {hv : Value} {g : List Nat} {i : Nat} {r : List V} (h : Rep E w β (.sl .own sz rows) hv g) (hi : rows[i]? = some r) :
    ∃ (a : Addr) (cap : Nat) (cs : List Value) (f : List Nat), hv = .slice (some a) rows.length cap ∧ rows.length ≤ cap ∧ RepRows E w β sz rows cs f ∧ a.spot = none ∧ RowAt w a.block a.off cs ∧
      a.block < w.heap.size ∧ g = a.block :: f ∧ Clean w a.block (a.off + cap * sz) := by
  simp only [Rep] at h
  obtain ⟨a, len, cap, cs, f, h1, h2, h3, h4, h5, _⟩ := h
  cases a with
  | none =>
    simp only [SlOk] at h5
    have : rows = [] := List.length_eq_zero_iff.1 (h2.trans h5.1)
    subst this; simp at hi
  | some a =>
    simp only [SlOk] at h5
    obtain ⟨k1, k2, k3, k4⟩ := h5
    rcases k4 with ⟨_, k5, k6⟩ | ⟨k5, _⟩
    · exact ⟨a, cap, cs, f, by rw [h1, h2], by omega, h4, k1, k2, k3, k5, k6⟩
    · exact absurd rfl k5
theorem getRow_rep : ∀ {p : List (Nat × Nat × Nat)} {st : Nat × Nat × Nat} {row row' : List V} {off o : Nat} {cs : List Value} {fp : List Nat}, RepRow E w β row cs fp →
    getRow row off (st :: p) = some (row', o) →
    ∃ hv b base cs' fp' rest, cs[off]? = some hv ∧ follow w hv (st :: p) = some (b, base + o) ∧ RepRow E w β row' cs' fp' ∧ row'.all V.noPtr = true ∧ RowAt w b base cs' ∧ Clean w b (base + cs'.length) ∧
      b < w.heap.size ∧ fp.Perm (b :: (fp' ++ rest))
  | p, (i, sz, o1), row, row', off, o, cs, fp, h, hg => by
    simp only [getRow] at hg
    split at hg
    case h_2 => simp at hg
    rename_i sz' rows hrow
    split at hg
    case isFalse => simp at hg
    rename_i hsz
    subst hsz
    split at hg
    case h_2 => simp at hg
    rename_i r hi
    obtain ⟨c1, hv, c2, f1, g, f2, e1, e2, e3, e4, _, _⟩ := h.at hrow
    obtain ⟨a, cap, csR, f, rfl, hcap, hR, hsp, hat, hlt, rfl, hcl⟩ := e4.own hi
    obtain ⟨d1, d, d2, q1, gq, q2, k1, k2, k3, k4, k5, k6, _, _⟩ := hR.at hi
    have hcs : cs[off]? = some (Value.slice (some a) rows.length cap) := by
      rw [e1, ← e3]; simp
    have hat2 : RowAt w a.block (a.off + i * sz) d := by
      rw [k1, RowAt.append, RowAt.append] at hat
      have := hat.1.2; rwa [k3] at this
    have hlen : i < rows.length := (List.getElem?_eq_some_iff.1 hi).1
    have hdl : d.length = sz := by rw [k6.len, k4]
    have hcl2 : Clean w a.block (a.off + i * sz + d.length) := by
      obtain ⟨c, e, h1, h2⟩ := hcl
      refine ⟨c, e, h1, Nat.le_trans ?_ h2⟩
      rw [hdl]
      have : (i + 1) * sz ≤ cap * sz := Nat.mul_le_mul_right _ (by omega)
      rw [Nat.succ_mul] at this
      omega
    cases p with
    | nil =>
      simp only [getRow, Option.some.injEq, Prod.mk.injEq] at hg
      obtain ⟨rfl, rfl⟩ := hg
      refine ⟨_, a.block, a.off + i * sz, d, gq, f1 ++ q1 ++ q2 ++ f2, hcs, rfl, k6, k5, hat2, hcl2, hlt, ?_⟩
      rw [e2, k2, List.perm_iff_count]; intro x
      simp only [List.count_append, List.count_cons]; omega
    | cons st2 p2 =>
      obtain ⟨hv2, b, base, cs', fp', rest, m1, m2, m3, m3', m4, m5, m6, m7⟩ := getRow_rep k6 hg
      refine ⟨_, b, base, cs', fp', a.block :: (f1 ++ q1 ++ q2 ++ f2 ++ rest), hcs, ?_, m3, m3', m4, m5, m6, ?_⟩
      · simp only [follow, stepA]
        rw [hat2 o1 hv2 m1]
        exact m2
      · rw [List.perm_iff_count] at m7 ⊢
        intro x
        have := m7 x
        rw [e2, k2]
        simp only [List.count_append, List.count_cons] at this ⊢; omega
theorem splice_split {row xs : List V} {off : Nat} {cs : List Value} {f : List Nat} (h : RepRow E w β row cs f) (hl : off + xs.length ≤ row.length) :
    ∃ cA cS cB fA fS fB, cs = cA ++ cS ++ cB ∧ f = fA ++ fS ++ fB ∧ cA.length = off ∧ cS.length = xs.length ∧ RepRow E w β (row.take off) cA fA ∧ RepRow E w β ((row.drop off).take xs.length) cS fS ∧
      RepRow E w β (row.drop (off + xs.length)) cB fB := by
  have e : row = row.take off ++ ((row.drop off).take xs.length ++ row.drop (off + xs.length)) := by
    rw [← List.drop_drop, List.take_append_drop, List.take_append_drop]
  rw [e] at h
  obtain ⟨cA, d, fA, d2, h1, h2, h3, h4⟩ := h.split
  obtain ⟨cS, cB, fS, fB, k1, k2, k3, k4⟩ := h4.split
  refine ⟨cA, cS, cB, fA, fS, fB, by rw [h1, k1, List.append_assoc], by rw [h2, k2, List.append_assoc], ?_, ?_, h3, k3, k4⟩
  · rw [h3.len, List.length_take]; omega
  · rw [k3.len, List.length_take, List.length_drop]; omega
theorem setRow_rep {xs : List V} (hxp : xs.all V.noPtr = true) : ∀ {p : List (Nat × Nat × Nat)} {st : Nat × Nat × Nat} {row row2 : List V} {off : Nat} {cs : List Value} {fp : List Nat}, RepRow E w β row cs fp →
    setRow row off (st :: p) xs = some row2 →
    ∃ hv b base row' o cA cS cB fA fS fB rest, cs[off]? = some hv ∧ follow w hv (st :: p) = some (b, base + o) ∧ getRow row off (st :: p) = some (row', o) ∧ o + xs.length ≤ row'.length ∧
      RepRow E w β ((row'.drop o).take xs.length) cS fS ∧ RowAt w b base (cA ++ cS ++ cB) ∧ cA.length = o ∧ cS.length = xs.length ∧ Clean w b (base + (cA ++ cS ++ cB).length) ∧
      b < w.heap.size ∧ fp.Perm (b :: (fA ++ fS ++ fB ++ rest)) ∧
      ∀ (E2 : Env) (w2 : World) (β2 : Nat → Option Nat) (cX : List Value) (fX : List Nat), Stp E w E2 w2 → (∀ r x, β r = some x → β2 r = some x) → RepRow E2 w2 β2 xs cX fX →
        (∀ x ∈ fA ++ fB ++ rest, w2.heap[x]? = w.heap[x]?) → RowAt w2 b (base + o) cX → (∀ j, j < base + o ∨ base + o + xs.length ≤ j → w2.cell? ⟨b, j, none⟩ = w.cell? ⟨b, j, none⟩) →
        (∀ n, Clean w b n → Clean w2 b n) → ∃ fp2, RepRow E2 w2 β2 row2 cs fp2 ∧ fp2.Perm (b :: (fA ++ fX ++ fB ++ rest))
  | p, (i, sz, o1), row, row2, off, cs, fp, h, hs => by
    simp only [setRow] at hs
    split at hs
    case h_2 => simp at hs
    rename_i sz' rows hrow
    split at hs
    case isFalse => simp at hs
    rename_i hsz
    subst hsz
    split at hs
    case h_2 => simp at hs
    rename_i r hi
    split at hs
    case h_2 => simp at hs
    rename_i r2 hr2
    obtain rfl := Option.some.inj hs
    obtain ⟨c1, hv, c2, f1, g, f2, e1, e2, e3, e4, e5, e6⟩ := h.at hrow
    obtain ⟨a, cap, csR, f, rfl, hcap, hR, hsp, hat, hlt, rfl, hcl⟩ := e4.own hi
    obtain ⟨d1, d, d2, q1, gq, q2, k1, k2, k3, k4, k5, k6, k7, k8⟩ := hR.at hi
    have hcs : cs[off]? = some (Value.slice (some a) rows.length cap) := by
      rw [e1, ← e3]; simp
    have hat' := hat
    rw [k1, RowAt.append, RowAt.append, k3] at hat'
    have hat2 := hat'.1.2
    have hlen : i < rows.length := (List.getElem?_eq_some_iff.1 hi).1
    have hoff : off < row.length := (List.getElem?_eq_some_iff.1 hrow).1
    have hdl : d.length = sz := by rw [k6.len, k4]
    have hmul : a.off + i * sz + sz ≤ a.off + cap * sz := by
      have : (i + 1) * sz ≤ cap * sz := Nat.mul_le_mul_right _ (by omega)
      rw [Nat.succ_mul] at this; omega
    have hcl2 : Clean w a.block (a.off + i * sz + d.length) := by
      obtain ⟨c, e, h1, h2⟩ := hcl
      exact ⟨c, e, h1, by rw [hdl]; omega⟩
    have build : ∀ (E2 : Env) (w2 : World) (β2 : Nat → Option Nat) (d' : List Value) (gq' : List Nat), Stp E w E2 w2 → (∀ r x, β r = some x → β2 r = some x) → RepRow E2 w2 β2 r2 d' gq' →
        r2.length = sz → r2.all V.noPtr = true → (∀ x ∈ f1 ++ q1 ++ q2 ++ f2, w2.heap[x]? = w.heap[x]?) → RowAt w2 a.block a.off (d1 ++ d' ++ d2) → (∀ n, Clean w a.block n → Clean w2 a.block n) →
        RepRow E2 w2 β2 (row.set off (.sl .own sz (rows.set i r2))) cs (f1 ++ (a.block :: (q1 ++ gq' ++ q2)) ++ f2) := by
      intro E2 w2 β2 d' gq' hst hb hr hl hn hsame hrow2 hclean
      rw [e1]
      refine RepRow.set hoff (e5.frame hst hb _ _ _ fun x hx => hsame x (by simp [hx])) ?_ (e6.frame hst hb _ _ _ fun x hx => hsame x (by simp [hx]))
      simp only [Rep]
      refine ⟨some a, rows.length, cap, d1 ++ d' ++ d2, q1 ++ gq' ++ q2, rfl, by simp, hcap, RepRows.set hlen hl hn (k7.frame hst hb _ _ _ _ fun x hx => hsame x (by simp [hx])) hr
        (k8.frame hst hb _ _ _ _ fun x hx => hsame x (by simp [hx])), ?_, by simp⟩
      simp only [SlOk]
      exact ⟨hsp, hrow2, Nat.lt_of_lt_of_le hlt hst.size, .inl ⟨trivial, trivial, hclean _ hcl⟩⟩
    cases p with
    | nil =>
      simp only [setRow] at hr2
      split at hr2
      case isFalse => simp at hr2
      rename_i hfit
      obtain rfl := Option.some.inj hr2
      obtain ⟨cA, cS, cB, fA, fS, fB, m1, m2, m3, m4, m5, m6, m7⟩ := splice_split k6 hfit
      refine ⟨_, a.block, a.off + i * sz, r, o1, cA, cS, cB, fA, fS, fB, f1 ++ q1 ++ q2 ++ f2, hcs, rfl, ?_, hfit, m6, by rw [← m1]; exact hat2, m3, m4, by rw [← m1]; exact hcl2, hlt, ?_, ?_⟩
      · simp only [getRow, hrow, hi, if_true]
      · rw [e2, k2, m2, List.perm_iff_count]; intro x
        simp only [List.count_append, List.count_cons]; omega
      · intro E2 w2 β2 cX fX hst hb hX hsame hxat hother hclean
        have hXl : cX.length = xs.length := hX.len
        refine ⟨_, build E2 w2 β2 (cA ++ cX ++ cB) (fA ++ fX ++ fB) hst hb ?_ ?_ ?_ (fun x hx => hsame x (by simp only [List.mem_append] at hx ⊢; grind)) ?_ hclean, ?_⟩
        · simp only [splice]
          exact RepRow.append (RepRow.append (m5.frame hst hb _ _ _ fun x hx => hsame x (by simp [hx])) hX) (m7.frame hst hb _ _ _ fun x hx => hsame x (by simp [hx]))
        · simp only [splice, List.length_append, List.length_take, List.length_drop]; omega
        · exact splice_noPtr k5 hxp
        · have l1 : RowAt w2 a.block a.off d1 := fun j v hj => by
            have hjl := (List.getElem?_eq_some_iff.1 hj).1
            rw [hother _ (.inl (by omega))]; exact hat'.1.1 j v hj
          have l2 : RowAt w2 a.block (a.off + i * sz) cA := fun j v hj => by
            have hjl := (List.getElem?_eq_some_iff.1 hj).1
            rw [hother _ (.inl (by omega))]
            rw [m1, RowAt.append, RowAt.append] at hat2; exact hat2.1.1 j v hj
          have l3 : RowAt w2 a.block (a.off + i * sz + (cA ++ cX).length) cB := fun j v hj => by
            rw [hother _ (.inr (by simp only [List.length_append]; omega))]
            rw [m1, RowAt.append] at hat2
            have := hat2.2 j v hj
            simp only [List.length_append] at this ⊢; rw [m4] at this; rw [hXl]; exact this
          have l4 : RowAt w2 a.block (a.off + (d1 ++ (cA ++ cX ++ cB)).length) d2 := fun j v hj => by
            have hlen2 : (cA ++ cX ++ cB).length = d.length := by rw [m1]; simp only [List.length_append]; omega
            rw [hother _ (.inr (by
              simp only [List.length_append] at hlen2 ⊢
              rw [m1] at hdl; simp only [List.length_append] at hdl
              have : r.length = cA.length + cS.length + cB.length := by rw [← k6.len, m1]; simp only [List.length_append]
              omega))]
            have := hat'.2 j v hj
            simp only [List.length_append] at this hlen2 ⊢
            rw [show a.off + (d1.length + (cA.length + cX.length + cB.length)) + j = a.off + (d1.length + d.length) + j from by omega]
            exact this
          rw [RowAt.append, RowAt.append, RowAt.append, RowAt.append, k3, m3]
          refine ⟨⟨l1, ⟨l2, ?_⟩, ?_⟩, ?_⟩
          · exact hxat
          · exact l3
          · exact l4
        · rw [List.perm_iff_count]; intro x
          simp only [List.count_append, List.count_cons]; omega
    | cons st2 p2 =>
      obtain ⟨hv2, b, base, row', o, cA, cS, cB, fA, fS, fB, rest, m1, m2, m3, m3', m4, m5, m6, m7, m8, m9, m10, m11⟩ := setRow_rep hxp k6 hr2
      refine ⟨_, b, base, row', o, cA, cS, cB, fA, fS, fB, a.block :: (f1 ++ q1 ++ q2 ++ f2 ++ rest), hcs, ?_, ?_, m3', m4, m5, m6, m7, m8, m9, ?_, ?_⟩
      · simp only [follow, stepA]; rw [hat2 o1 hv2 m1]; exact m2
      · simp only [getRow, hrow, hi, if_true]; exact m3
      · rw [List.perm_iff_count] at m10 ⊢
        intro x
        have := m10 x
        rw [e2, k2]; simp only [List.count_append, List.count_cons] at this ⊢; omega
      · intro E2 w2 β2 cX fX hst hb hX hsame hxat hother hclean
        obtain ⟨fp2, n1, n2⟩ := m11 E2 w2 β2 cX fX hst hb hX (fun x hx => hsame x (by simp only [List.mem_append, List.mem_cons] at hx ⊢; grind)) hxat hother hclean
        have hblk : w2.heap[a.block]? = w.heap[a.block]? := hsame _ (by simp)
        refine ⟨_, build E2 w2 β2 d fp2 hst hb n1 ?_ ?_ (fun x hx => hsame x (by simp only [List.mem_append, List.mem_cons] at hx ⊢; grind)) ?_ (fun n hn => hn.same hblk), ?_⟩
        · rw [setRow_len hr2, k4]
        · exact setRow_noPtr hxp k5 hr2
        · rw [← k1]; exact hat.same hblk
        · rw [List.perm_iff_count] at n2 ⊢
          intro x
          have := n2 x
          simp only [List.count_append, List.count_cons] at this ⊢; omega
end place
end Pv

namespace Pv
open Go
theorem get_set (s : St) (i j : Nat) (x : Slot) : (s.set i x).get j = if i = j then some x else s.get j := by
  induction s with
  | nil => simp [St.set, St.get]
  | cons y s ih =>
    obtain ⟨k, y⟩ := y
    simp only [St.set]
    by_cases h : k = i
    · subst h
      rw [if_pos rfl]
      simp only [St.get]
      by_cases h2 : k = j <;> simp [h2]
    · rw [if_neg h]
      by_cases h3 : i < k
      · rw [if_pos h3]; simp only [St.get]
      · rw [if_neg h3]
        simp only [St.get, ih]
        by_cases h2 : k = j
        · subst h2; rw [if_pos rfl, if_neg (fun e => h e.symm), if_pos rfl]
        · simp [h2]
theorem get_set_same (s : St) (i : Nat) (x : Slot) : (s.set i x).get i = some x := by simp [get_set]
theorem get_set_ne (s : St) {i j : Nat} (x : Slot) (h : i ≠ j) : (s.set i x).get j = s.get j := by simp [get_set, h]
theorem get_filter (s : St) (f : Nat → Bool) (j : Nat) : St.get (s.filter fun x => f x.1) j = if f j then s.get j else none := by
  induction s with
  | nil => simp [St.get]
  | cons y s ih =>
    obtain ⟨k, y⟩ := y
    by_cases hk : f k = true
    · rw [List.filter_cons_of_pos (by simpa using hk)]
      simp only [St.get, ih]
      split
      · rename_i h; subst h; simp [hk]
      · rfl
    · rw [List.filter_cons_of_neg (by simpa using hk), ih]
      simp only [St.get]
      by_cases h : k = j
      · subst h; simp [hk]
      · simp [h]
def isBox (i : Nat) : Bool := decide (5000 ≤ i) && decide (i < 30000)
def cvOf (tm : Array Value) (i : Nat) : Value :=
  if 30000 ≤ i then (match tm.getD ((i - 30000) / 100) (.tuple #[]) with
    | .tuple vs => vs.getD ((i - 30000) % 100) (.tuple #[])
    | _ => .tuple #[]) else tm.getD i (.tuple #[])
def topVal (w : World) (β : Nat → Option Nat) (tm : Array Value) (r off : Nat) : Option Value :=
  if isBox r then (match β r with | some b => w.cell? ⟨b, off, none⟩ | none => none)
  else match cvOf tm r with
    | .agg cs => cs.toList[off]?
    | v => if off = 0 then some v else none
def plAddr (w : World) (β : Nat → Option Nat) (tm : Array Value) (p : Pl) : Option (Nat × Nat) := match p.path with
  | [] => if isBox p.r then (β p.r).map fun b => (b, p.off) else none
  | st :: q => match topVal w β tm p.r p.off with
    | some v => follow w v (st :: q)
    | none => none
def plVal (w : World) (β : Nat → Option Nat) (tm : Array Value) (p : Pl) : Option Value := match p.path with
  | [] => topVal w β tm p.r p.off
  | _ :: _ => match plAddr w β tm p with
    | some (b, o) => w.cell? ⟨b, o, none⟩
    | none => none
def cutVal (sz lo hi : Nat) (c : Bool) (a : Option Addr) (cap : Nat) : Value :=
  let m := if c then hi else cap
  .slice (if m = lo then a else a.map (·.add (lo * sz))) (hi - lo) (m - lo)
def AlOk (s : St) (p : Pl) : Prop := p.r < 30000 ∧ ∃ t v, s.get p.r = some (t, v) ∧ p.ver ≤ v
def AlSays (w : World) (β : Nat → Option Nat) (s : St) (tm : Array Value) (p : Pl) (cv : Value) : Prop :=
  ∀ l sz rows, s.cell p = some (.sl l sz rows) → plVal w β tm p = some cv
def Pl.at (p : Pl) (j : Nat) : Pl := shift p j
def ScRow (ag : Bool) (r : List V) (c : Value) : Prop := ∃ vs : List Value, r = vs.map V.sc ∧ (∀ v ∈ vs, isSca v = true) ∧ if ag then c = .agg vs.toArray else [c] = vs
def Ents (ka va : Bool) : List (List V) → List (List V) → List MapEntry → Prop
  | [], [], [] => True
  | k :: ks, v :: vs, e :: es => ScRow ka k e.key ∧ ScRow va v e.val ∧ Ents ka va ks vs es
  | _, _, _ => False
def TOk (E : Env) (w : World) (β : Nat → Option Nat) (s : St) (tm : Array Value) : T → Value → List Nat → Prop
  | .one v, cv, fp => Rep E w β v cv fp
  | .agg row, cv, fp => ∃ cs : Array Value, cv = .agg cs ∧ RepRow E w β row cs.toList fp
  | .al p, cv, fp => fp = [] ∧ AlOk s p ∧ AlSays w β s tm p cv
  | .ala p snap, cv, fp => fp = [] ∧ AlOk s p ∧ ∃ cs : Array Value, cv = .agg cs ∧ cs.size = snap.length ∧
      ∀ j v c, snap[j]? = some v → cs.toList[j]? = some c → if v.noOwn then Rep E w β v c [] else AlSays w β s tm (p.at j) c
  | .slb p lo hi c, cv, fp => fp = [] ∧ AlOk s p ∧ ∀ l sz rows, s.cell p = some (.sl l sz rows) →
      ∃ a cap, plVal w β tm p = some (.slice a rows.length cap) ∧ lo ≤ hi ∧ hi ≤ rows.length ∧ cv = cutVal sz lo hi c a cap
  | .ad p, cv, fp => fp = [] ∧ AlOk s p ∧ p.path ≠ [] ∧ ((s.place p).isSome → ∃ b o, plAddr w β tm p = some (b, o) ∧ cv = .pointer (some ⟨b, o, none⟩))
  | .rad row off, cv, fp => fp = [] ∧ ∃ b o cs, cv = .pointer (some ⟨b, o + off, none⟩) ∧ RowAt w b o cs ∧ RepRow E w β row cs [] ∧ b < w.heap.size ∧ (¬ E.own b ∨ E.tag b ≠ none) ∧ row.all V.noPtr = true
  | .tup ts, cv, fp => fp = [] ∧ ∃ vs : Array Value, cv = .tuple vs ∧ vs.size = ts.length
  | .mp r ka va ks vs, _, fp => ∃ b es clk, β r = some b ∧ fp = [b] ∧ w.heap[b]? = some (.map es clk) ∧ b < w.heap.size ∧ Ents ka va ks vs es.toList
def RootOk (E : Env) (w : World) (β : Nat → Option Nat) (s : St) (tm : Array Value) (i : Nat) (t : T) (fp : List Nat) : Prop :=
  if isBox i then ∃ b cs f row, β i = some b ∧ t = .agg row ∧ fp = b :: f ∧ RepRow E w β row cs f ∧ RowAt w b 0 cs ∧ Clean w b cs.length ∧ b < w.heap.size
  else TOk E w β s tm t (cvOf tm i) fp
def ExtR (r : Nat) : Prop := (10000 ≤ r ∧ r < 30000) ∨ 610000 ≤ r
def BoxAt (s : St) (i : Nat) : Prop := (isBox i = true ∨ (600000 ≤ i ∧ ∃ ka va ks vs v, s.get i = some (.mp i ka va ks vs, v))) ∧ (s.get i).isSome
theorem BoxAt.congr {s s2 : St} {i : Nat} (h : BoxAt s i) (e : s2.get i = s.get i) : BoxAt s2 i := by unfold BoxAt; rw [e]; exact h
theorem BoxAt.rng {s : St} {i : Nat} (h : BoxAt s i) : (5000 ≤ i ∧ i < 30000) ∨ 600000 ≤ i := by
  rcases h.1 with h | h
  · exact .inl (by simpa [isBox] using h)
  · exact .inr h.1
structure Inv (E : Env) (w : World) (β : Nat → Option Nat) (s : St) (tm : Array Value) (g : Nat → List Nat) : Prop where
  roots : ∀ i t v, s.get i = some (t, v) → RootOk E w β s tm i t (g i)
  absent : ∀ i, s.get i = Option.none → g i = []
  own : ∀ i b, b ∈ g i → E.own b ∧ E.tag b = none ∧ b < w.heap.size
  nodup : ∀ i, (g i).Nodup
  disj : ∀ i j, i ≠ j → ∀ b, b ∈ g i → b ∉ g j
  box : ∀ i b, β i = some b → BoxAt s i
  small : ∀ b, w.heap.size ≤ b → E.tag b = none
section
variable {E : Env} {w w2 : World} {β : Nat → Option Nat}
theorem follow_same : ∀ {p : List (Nat × Nat × Nat)} {st : Nat × Nat × Nat} {row row' : List V} {off o : Nat} {cs : List Value} {fp : List Nat} {hv : Value}, RepRow E w β row cs fp →
    getRow row off (st :: p) = some (row', o) → (∀ x ∈ fp, w2.heap[x]? = w.heap[x]?) → cs[off]? = some hv → follow w2 hv (st :: p) = follow w hv (st :: p)
  | [], _, _, _, _, _, _, _, _, _, _, _, _ => rfl
  | st2 :: p, (i, sz, o1), row, row', off, o, cs, fp, hv, h, hg, hs, hcs => by
    simp only [getRow] at hg
    split at hg
    case h_2 => simp at hg
    rename_i sz' rows hrow
    split at hg
    case isFalse => simp at hg
    rename_i hsz
    subst hsz
    split at hg
    case h_2 => simp at hg
    rename_i r hi
    obtain ⟨c1, hv', c2, f1, g, f2, e1, e2, e3, e4, _, _⟩ := h.at hrow
    have : hv = hv' := by rw [e1, ← e3] at hcs; simpa using hcs.symm
    subst this
    obtain ⟨a, cap, csR, f, rfl, hcap, hR, hsp, hat, hlt, rfl, hcl⟩ := e4.own hi
    obtain ⟨d1, d, d2, q1, gq, q2, k1, k2, k3, k4, k5, k6, _, _⟩ := hR.at hi
    have hat2 : RowAt w a.block (a.off + i * sz) d := by
      rw [k1, RowAt.append, RowAt.append] at hat
      have := hat.1.2; rwa [k3] at this
    obtain ⟨hv2, b, base, cs', fp', rest, m1, m2, _⟩ := getRow_rep k6 hg
    simp only [follow, stepA]
    rw [cell_same (hs a.block (by rw [e2]; simp)), hat2 o1 hv2 m1]
    exact follow_same k6 hg (fun x hx => hs x (by rw [e2, k2]; simp [hx])) m1
theorem follow_sca (hw : ∀ b o v, w.cell? ⟨b, o, none⟩ = some v → isSca v = false → w2.cell? ⟨b, o, none⟩ = some v) :
    ∀ {p : List (Nat × Nat × Nat)} {v : Value} {x : Nat × Nat}, follow w v p = some x → follow w2 v p = some x
  | [], _, _, h => by simp [follow] at h
  | [_], _, _, h => h
  | st :: st2 :: p, v, x, h => by
    simp only [follow] at h ⊢
    cases hst : stepA v st with
    | none => rw [hst] at h; simp at h
    | some bo =>
      obtain ⟨b, o⟩ := bo
      rw [hst] at h
      simp only [] at h ⊢
      cases hc : w.cell? ⟨b, o, none⟩ with
      | none => rw [hc] at h; simp at h
      | some v' =>
        rw [hc] at h
        simp only [] at h
        have hv : isSca v' = false := by
          cases p with
          | nil => cases v' <;> simp [follow, stepA] at h <;> rfl
          | cons st3 p => cases v' <;> simp [follow, stepA] at h <;> rfl
        simp only [hw b o v' hc hv]
        exact follow_sca hw h
theorem low_get {xs : List V} (hx : ∀ (k : Nat) (v : V), xs[k]? = some v → v.noOwn = true ∨ v = .dead) : ∀ {p q : List (Nat × Nat × Nat)} {row row2 : List V} {off off' : Nat} {x : List V × Nat},
    setRow row off p xs = some row2 → (∀ (r : List V) (o k : Nat) (l : Lab) (sz : Nat) (rows : List (List V)), getRow row off p = some (r, o) → xs[k]? = some (.sl l sz rows) → ∃ (l' : Lab) (rows' : List (List V)), r[o + k]? = some (.sl l' sz rows') ∧ rows'.length = rows.length) →
    getRow row2 off' q = some x → ∃ r', getRow row off' q = some (r', x.2) ∧ r'.length = x.1.length ∧
      (∀ (j : Nat) (l : Lab) (sz : Nat) (rows : List (List V)), x.1[j]? = some (.sl l sz rows) → ∃ (l' : Lab) (rows' : List (List V)), r'[j]? = some (.sl l' sz rows') ∧ rows'.length = rows.length)
  | [], q, row, row2, off, off', x, hs, hsl, hg => by
    simp only [setRow] at hs
    split at hs
    case isFalse => simp at hs
    rename_i hfit
    obtain rfl := Option.some.inj hs
    have hpt : ∀ j v, (splice row off xs)[j]? = some v → row[j]? = some v ∨ (∃ k, xs[k]? = some v ∧ j = off + k) := by
      intro j v hj
      simp only [splice] at hj
      by_cases h1 : j < off
      · rw [List.getElem?_append_left (by simp; omega), List.getElem?_append_left (by simp; omega), List.getElem?_take_of_lt h1] at hj
        exact .inl hj
      · by_cases h2 : j < off + xs.length
        · rw [List.getElem?_append_left (by simp; omega), List.getElem?_append_right (by simp; omega)] at hj
          refine .inr ⟨j - off, ?_, by omega⟩
          rw [List.length_take, Nat.min_eq_left (by omega)] at hj; exact hj
        · rw [List.getElem?_append_right (by simp; omega), List.getElem?_drop] at hj
          rw [List.length_append, List.length_take, Nat.min_eq_left (by omega)] at hj
          rw [show off + xs.length + (j - (off + xs.length)) = j from by omega] at hj
          exact .inl hj
    cases q with
    | nil =>
      simp only [getRow, Option.some.injEq] at hg
      subst hg
      refine ⟨row, rfl, by simp [splice]; omega, ?_⟩
      intro j l sz rows hj
      rcases hpt j _ hj with h | ⟨k, h, rfl⟩
      · exact ⟨l, rows, h, rfl⟩
      · exact hsl row off k l sz rows rfl h
    | cons st q =>
      obtain ⟨i, sz, o⟩ := st
      simp only [getRow] at hg ⊢
      split at hg
      case h_2 => simp at hg
      rename_i sz' rows hrow
      rcases hpt _ _ hrow with h | ⟨k, h, _⟩
      · rw [h]
        simp only []
        split at hg
        case isFalse => simp at hg
        rename_i hsz
        rw [if_pos hsz]
        split at hg
        case h_2 => simp at hg
        exact ⟨x.1, hg, rfl, fun j l sz rows h => ⟨l, rows, h, rfl⟩⟩
      · rcases hx k _ h with h' | h' <;> simp [V.noOwn] at h'
  | (i0, sz0, o0) :: p, q, row, row2, off, off', x, hs, hsl, hg => by
    simp only [setRow] at hs
    split at hs
    case h_2 => simp at hs
    rename_i sz1 rows1 hrow1
    split at hs
    case isFalse => simp at hs
    rename_i hsz1
    subst hsz1
    split at hs
    case h_2 => simp at hs
    rename_i r0 hi0
    split at hs
    case h_2 => simp at hs
    rename_i r0' hr0'
    obtain rfl := Option.some.inj hs
    have hoff : off < row.length := (List.getElem?_eq_some_iff.1 hrow1).1
    cases q with
    | nil =>
      simp only [getRow, Option.some.injEq] at hg
      subst hg
      refine ⟨row, rfl, by simp, ?_⟩
      intro j l sz rows hj
      by_cases hjo : off = j
      · subst hjo
        rw [List.getElem?_set_self hoff] at hj
        simp only [Option.some.injEq, V.sl.injEq] at hj
        obtain ⟨rfl, rfl, rfl⟩ := hj
        exact ⟨_, _, hrow1, by simp⟩
      · rw [List.getElem?_set_ne hjo] at hj
        exact ⟨l, rows, hj, rfl⟩
    | cons st q =>
      obtain ⟨i, sz, o⟩ := st
      simp only [getRow] at hg ⊢
      by_cases hjo : off = off'
      · subst hjo
        rw [List.getElem?_set_self hoff] at hg
        rw [hrow1]
        simp only [] at hg ⊢
        split at hg
        case isFalse => simp at hg
        rename_i hsz
        rw [if_pos hsz]
        have hi0l : i0 < rows1.length := (List.getElem?_eq_some_iff.1 hi0).1
        by_cases hii : i0 = i
        · subst hii
          rw [List.getElem?_set_self hi0l] at hg
          rw [hi0]
          simp only [] at hg ⊢
          exact low_get hx hr0' (fun r o k l sz rows h => hsl r o k l sz rows (by simp only [getRow, hrow1, hi0, if_true]; exact h)) hg
        · rw [List.getElem?_set_ne hii] at hg
          split at hg
          case h_2 => simp at hg
          exact ⟨x.1, hg, rfl, fun j l sz rows h => ⟨l, rows, h, rfl⟩⟩
      · rw [List.getElem?_set_ne hjo] at hg
        split at hg
        case h_2 => simp at hg
        split at hg
        case isFalse => simp at hg
        rename_i hsz
        rw [if_pos hsz]
        split at hg
        case h_2 => simp at hg
        exact ⟨x.1, hg, rfl, fun j l sz rows h => ⟨l, rows, h, rfl⟩⟩
end
end Pv

namespace Pv
open Go
theorem getRow_shift : ∀ (q : List (Nat × Nat × Nat)) (st : Nat × Nat × Nat) (row : List V) (off k : Nat) (row' : List V) (o : Nat),
    getRow row off (st :: q) = some (row', o) → getRow row off (shiftPath (st :: q) k) = some (row', o + k)
  | [], (i, sz, o1), row, off, k, row', o, h => by
    simp only [shiftPath, getRow] at h ⊢
    split at h
    · split at h
      · split at h
        · simp only [Option.some.injEq, Prod.mk.injEq] at h; simp only [*, if_true, h.1, h.2]
        · simp at h
      · simp at h
    · simp at h
  | st2 :: q, (i, sz, o1), row, off, k, row', o, h => by
    simp only [shiftPath]
    unfold getRow at h ⊢
    split at h
    · split at h
      · rename_i hsz
        split at h
        · simp only [hsz, if_true]; exact getRow_shift q st2 _ _ k _ _ h
        · simp at h
      · simp at h
    · simp at h
theorem follow_cons2 {w : World} (v : Value) (st st2 : Nat × Nat × Nat) (q : List (Nat × Nat × Nat)) : follow w v (st :: st2 :: q) =
    (stepA v st).bind fun x => (w.cell? ⟨x.1, x.2, none⟩).bind fun v' => follow w v' (st2 :: q) := by
  simp only [follow]
  cases stepA v st with
  | none => rfl
  | some x =>
    obtain ⟨b, o⟩ := x
    simp only [Option.bind_some]
    cases w.cell? ⟨b, o, none⟩ <;> rfl
theorem follow_shift {w : World} : ∀ (q : List (Nat × Nat × Nat)) (st : Nat × Nat × Nat) (v : Value) (k b o : Nat),
    follow w v (st :: q) = some (b, o) → follow w v (shiftPath (st :: q) k) = some (b, o + k)
  | [], (i, sz, o1), v, k, b, o, h => by
    simp only [shiftPath, follow] at h ⊢
    cases v <;> simp [stepA] at h
    rename_i a _ _
    cases a <;> simp at h
    simp [stepA, ← h.1, ← h.2, Nat.add_assoc]
  | st2 :: q, st, v, k, b, o, h => by
    have e : ∃ st' q', shiftPath (st2 :: q) k = st' :: q' := by
      cases q with
      | nil => exact ⟨_, _, rfl⟩
      | cons a q => exact ⟨_, _, rfl⟩
    obtain ⟨st', q', e⟩ := e
    rw [follow_cons2] at h
    rw [show shiftPath (st :: st2 :: q) k = st :: shiftPath (st2 :: q) k from rfl, e, follow_cons2]
    cases hst : stepA v st with
    | none => rw [hst] at h; simp at h
    | some x =>
      rw [hst, Option.bind_some] at h
      rw [Option.bind_some]
      cases hc : w.cell? ⟨x.1, x.2, none⟩ with
      | none => rw [hc] at h; simp at h
      | some v' =>
        rw [hc, Option.bind_some] at h
        rw [Option.bind_some, ← e]
        exact follow_shift q st2 v' k b o h
theorem shiftPath_cons (st : Nat × Nat × Nat) (q : List (Nat × Nat × Nat)) (k : Nat) : ∃ st' q', shiftPath (st :: q) k = st' :: q' := by
  cases q with
  | nil => exact ⟨_, _, rfl⟩
  | cons a q => exact ⟨_, _, rfl⟩
theorem shiftPath_len : ∀ (q : List (Nat × Nat × Nat)) (k : Nat), (shiftPath q k).length = q.length
  | [], _ => rfl
  | [_], _ => rfl
  | _ :: b :: q, k => by simp only [shiftPath, List.length_cons]; rw [shiftPath_len (b :: q) k]; rfl
section
variable {E : Env} {w : World} {β : Nat → Option Nat} {s : St} {tm : Array Value} {g : Nat → List Nat}
theorem Rep.notAgg {v : V} {a : Array Value} {fp : List Nat} (h : Rep E w β v (.agg a) fp) : v = .dead := by
  cases v <;> simp only [Rep] at h
  · obtain ⟨h1, h2, _⟩ := h; rw [← h1] at h2; simp [isSca] at h2
  · obtain ⟨a, len, cap, cs', f, h1, _⟩ := h; simp at h1
  · obtain ⟨_, h1⟩ := h; simp only [RepP] at h1; obtain ⟨b, _, h2⟩ := h1; simp at h2
  · obtain ⟨_, xs, ys, h1, _⟩ := h; simp at h1
  · obtain ⟨_, h1⟩ := h; simp only [RepP] at h1; obtain ⟨b, _, h2⟩ := h1; simp at h2
  · rfl
theorem Inv.row (hI : Inv E w β s tm g) {r v : Nat} {t : T} {row : List V} (hg : s.get r = some (t, v)) (ht : t.row? = some row) :
    ∃ cs f, RepRow E w β row cs f ∧ (∀ j x, row[j]? = some x → x ≠ .dead → topVal w β tm r j = cs[j]?) ∧
      ((isBox r = true ∧ ∃ b, β r = some b ∧ t = .agg row ∧ g r = b :: f ∧ RowAt w b 0 cs ∧ Clean w b cs.length ∧ b < w.heap.size) ∨
       (isBox r = false ∧ g r = f ∧ ((∃ v, row = [v] ∧ t = .one v ∧ cs = [cvOf tm r]) ∨ (t = .agg row ∧ ∃ a : Array Value, cvOf tm r = .agg a ∧ cs = a.toList)))) := by
  have h := hI.roots r t v hg
  unfold RootOk at h
  split at h
  · rename_i hb
    obtain ⟨b, cs, f, row', h1, rfl, h3, h4, h5, h6, h7⟩ := h
    simp only [T.row?, Option.some.injEq] at ht
    subst ht
    refine ⟨cs, f, h4, fun j x hj _ => ?_, .inl ⟨hb, b, h1, rfl, h3, h5, h6, h7⟩⟩
    unfold topVal
    rw [if_pos hb, h1]
    have hl := h4.len
    have hjl := (List.getElem?_eq_some_iff.1 hj).1
    obtain ⟨c, hc⟩ : ∃ c, cs[j]? = some c := ⟨cs[j]'(by omega), by simp⟩
    have := h5 j c hc
    rw [Nat.zero_add] at this
    rw [hc]; exact this
  · rename_i hb
    have hb : isBox r = false := by simpa using hb
    cases t with
    | one x =>
      simp only [T.row?, Option.some.injEq] at ht
      subst ht
      simp only [TOk] at h
      refine ⟨[cvOf tm r], g r, by simp only [RepRow]; exact ⟨_, [], g r, [], rfl, by simp, h, rfl, rfl⟩, fun j y hj hd => ?_, .inr ⟨hb, rfl, .inl ⟨x, rfl, rfl, rfl⟩⟩⟩
      have hjl := (List.getElem?_eq_some_iff.1 hj).1
      have hj0 : j = 0 := by simp at hjl; omega
      subst hj0
      obtain rfl : x = y := by simpa using hj
      unfold topVal
      rw [if_neg (by simp [hb])]
      split
      · rename_i cs hcv
        rw [hcv] at h
        exact absurd h.notAgg hd
      · simp
    | agg r' =>
      simp only [T.row?, Option.some.injEq] at ht
      subst ht
      simp only [TOk] at h
      obtain ⟨a, h1, h2⟩ := h
      refine ⟨a.toList, g r, h2, fun j _ _ _ => ?_, .inr ⟨hb, rfl, .inr ⟨rfl, a, h1, rfl⟩⟩⟩
      unfold topVal
      rw [if_neg (by simp [hb]), h1]
    | _ => simp [T.row?] at ht
theorem place_some {p : Pl} {x : List V × Nat} (h : s.place p = some x) : ∃ t row, s.get p.r = some (t, p.ver) ∧ t.row? = some row ∧ getRow row p.off p.path = some x := by
  unfold St.place at h
  split at h
  case h_2 => simp at h
  rename_i t v hg
  split at h
  case isFalse => simp at h
  rename_i hv
  subst hv
  split at h
  case h_2 => simp at h
  rename_i row ht
  exact ⟨t, row, hg, ht, h⟩
theorem place_mk {p : Pl} {x : List V × Nat} {t : T} {row : List V} (h1 : s.get p.r = some (t, p.ver)) (h2 : t.row? = some row) (h3 : getRow row p.off p.path = some x) : s.place p = some x := by
  unfold St.place; simp [h1, h2, h3]
theorem place_shift {p : Pl} {row' : List V} {o : Nat} (h : s.place p = some (row', o)) (k : Nat) : s.place (shift p k) = some (row', o + k) := by
  obtain ⟨t, row, h1, h2, h3⟩ := place_some h
  obtain ⟨r, off, path, ver⟩ := p
  cases path with
  | nil =>
    simp only [getRow, Option.some.injEq, Prod.mk.injEq] at h3
    exact place_mk (t := t) (row := row) h1 h2 (by simp [shift, getRow, h3.1, h3.2])
  | cons st q =>
    exact place_mk (t := t) (row := row) h1 h2 (by simp only [shift]; exact getRow_shift q st row off k row' o h3)
theorem Inv.seg (hI : Inv E w β s tm g) {p : Pl} {row' : List V} {o : Nat} (h : s.place p = some (row', o)) :
    ∃ cs f, RepRow E w β row' cs f ∧ (∀ x ∈ f, x ∈ g p.r) ∧ (∀ k x, row'[o + k]? = some x → x ≠ .dead → plVal w β tm (shift p k) = cs[o + k]?) ∧
      (p.path ≠ [] → ∃ b base, b ∈ g p.r ∧ (∀ k, plAddr w β tm (shift p k) = some (b, base + (o + k))) ∧ RowAt w b base cs ∧ Clean w b (base + cs.length) ∧ row'.all V.noPtr = true) := by
  obtain ⟨t, row, h1, h2, h3⟩ := place_some h
  obtain ⟨cs, f, k1, k2, k3⟩ := hI.row h1 h2
  have hfg : ∀ x ∈ f, x ∈ g p.r := by
    rcases k3 with ⟨_, b, _, _, h5, _⟩ | ⟨_, h5, _⟩
    · intro x hx; rw [h5]; exact List.mem_cons_of_mem _ hx
    · intro x hx; rw [h5]; exact hx
  obtain ⟨r, off, path, ver⟩ := p
  cases path with
  | nil =>
    simp only [getRow, Option.some.injEq, Prod.mk.injEq] at h3
    obtain ⟨rfl, rfl⟩ := h3
    refine ⟨cs, f, k1, hfg, fun k x hx hd => ?_, fun hne => absurd rfl hne⟩
    simp only [shift, plVal]
    exact k2 _ x hx hd
  | cons st q =>
    obtain ⟨hv, b, base, cs', fp', rest, m1, m2, m3, m4, m5, m6, m7, m8⟩ := getRow_rep k1 h3
    have hsub : ∀ x ∈ b :: (fp' ++ rest), x ∈ f := fun x hx => (m8.mem_iff).2 hx
    have htop : topVal w β tm r off = some hv := by
      have : ∃ x, row[off]? = some x ∧ x ≠ .dead := by
        obtain ⟨i, sz, o1⟩ := st
        simp only [getRow] at h3
        split at h3
        · rename_i heq; exact ⟨_, heq, by simp⟩
        · simp at h3
      obtain ⟨x, hx, hd⟩ := this
      rw [k2 off x hx hd, m1]
    have haddr : ∀ k, plAddr w β tm (shift ⟨r, off, st :: q, ver⟩ k) = some (b, base + (o + k)) := by
      intro k
      obtain ⟨st', q', e⟩ := shiftPath_cons st q k
      simp only [shift, plAddr, e, htop]
      rw [← e, ← Nat.add_assoc]
      exact follow_shift q st hv k b _ m2
    refine ⟨cs', fp', m3, fun x hx => hfg x (hsub x (by simp [hx])), fun k x hx hd => ?_, fun _ => ⟨b, base, hfg b (hsub b (by simp)), haddr, m5, m6, m4⟩⟩
    have hl := m3.len
    have hjl := (List.getElem?_eq_some_iff.1 hx).1
    obtain ⟨c, hc⟩ : ∃ c, cs'[o + k]? = some c := ⟨cs'[o + k]'(by omega), by simp⟩
    obtain ⟨st', q', e⟩ := shiftPath_cons st q k
    have ha := haddr k
    simp only [shift, e] at ha
    simp only [shift, plVal, e, ha]
    rw [hc]; exact m5 _ c hc
end
end Pv

namespace Pv
open Go
section
variable {E E2 : Env} {w w2 : World} {β β2 : Nat → Option Nat} {s s2 : St} {tm tm2 : Array Value} {g : Nat → List Nat}
theorem shift_r (p : Pl) (k : Nat) : (shift p k).r = p.r ∧ (shift p k).ver = p.ver := by
  unfold shift; split <;> exact ⟨rfl, rfl⟩
theorem AlOk.shift {p : Pl} (h : AlOk s p) (k : Nat) : AlOk s (shift p k) := by
  unfold AlOk at *; rw [(shift_r p k).1, (shift_r p k).2]; exact h
theorem TOk.step (hs : Stp E w E2 w2) (hb : ∀ r b, β r = some b → β2 r = some b)
    (H1 : ∀ p, AlOk s p → AlOk s2 p)
    (H2 : ∀ p l sz rows, AlOk s p → s2.cell p = some (.sl l sz rows) → (∃ l' rows', s.cell p = some (.sl l' sz rows') ∧ rows'.length = rows.length) ∧ plVal w2 β2 tm2 p = plVal w β tm p)
    (H3 : ∀ p, AlOk s p → p.path ≠ [] → (s2.place p).isSome → (s.place p).isSome ∧ plAddr w2 β2 tm2 p = plAddr w β tm p) :
    ∀ (t : T) (cv : Value) (fp : List Nat), (∀ x ∈ fp, w2.heap[x]? = w.heap[x]?) → TOk E w β s tm t cv fp → TOk E2 w2 β2 s2 tm2 t cv fp
  | .one v, cv, fp, hf, h => by simp only [TOk] at h ⊢; exact h.frame hs hb _ _ _ hf
  | .agg row, cv, fp, hf, h => by
    simp only [TOk] at h ⊢
    obtain ⟨cs, h1, h2⟩ := h
    exact ⟨cs, h1, h2.frame hs hb _ _ _ hf⟩
  | .al p, cv, fp, hf, h => by
    simp only [TOk] at h ⊢
    obtain ⟨h1, h2, h3⟩ := h
    refine ⟨h1, H1 p h2, fun l sz rows hc => ?_⟩
    obtain ⟨⟨l', rows', k1, _⟩, k2⟩ := H2 p l sz rows h2 hc
    rw [k2]; exact h3 _ _ _ k1
  | .ala p snap, cv, fp, hf, h => by
    simp only [TOk] at h ⊢
    obtain ⟨h1, h2, cs, h3, h4, h5⟩ := h
    refine ⟨h1, H1 p h2, cs, h3, h4, fun j v c hj hc => ?_⟩
    have := h5 j v c hj hc
    split
    · rename_i hn; rw [if_pos hn] at this
      exact this.frame hs hb _ _ _ (by simp)
    · rename_i hn; rw [if_neg hn] at this
      intro l sz rows hcell
      obtain ⟨⟨l', rows', k1, _⟩, k2⟩ := H2 (p.at j) l sz rows (h2.shift j) hcell
      rw [k2]; exact this _ _ _ k1
  | .slb p lo hi c, cv, fp, hf, h => by
    simp only [TOk] at h ⊢
    obtain ⟨h1, h2, h3⟩ := h
    refine ⟨h1, H1 p h2, fun l sz rows hc => ?_⟩
    obtain ⟨⟨l', rows', k1, k3⟩, k2⟩ := H2 p l sz rows h2 hc
    obtain ⟨a, cap, m1, m2, m3, m4⟩ := h3 _ _ _ k1
    exact ⟨a, cap, by rw [k2, m1, k3], m2, by omega, m4⟩
  | .ad p, cv, fp, hf, h => by
    simp only [TOk] at h ⊢
    obtain ⟨h1, h2, h3, h4⟩ := h
    refine ⟨h1, H1 p h2, h3, fun hp => ?_⟩
    obtain ⟨k1, k2⟩ := H3 p h2 h3 hp
    rw [k2]; exact h4 k1
  | .rad row off, cv, fp, hf, h => by
    simp only [TOk] at h ⊢
    obtain ⟨h1, b, o, cs, h2, h3, h4, h5, h6, h7⟩ := h
    have hsame : w2.heap[b]? = w.heap[b]? := by
      rcases h6 with h6 | h6
      · exact (hs.stab b h5 h6).1
      · exact hs.tagd b h5 h6
    refine ⟨h1, b, o, cs, h2, h3.same hsame, h4.frame hs hb _ _ _ (by simp), Nat.lt_of_lt_of_le h5 hs.size, ?_, h7⟩
    rcases h6 with h6 | h6
    · exact .inl (hs.stab b h5 h6).2
    · exact .inr (by rw [hs.tag b h5]; exact h6)
  | .tup ts, cv, fp, hf, h => by simpa only [TOk] using h
  | .mp r ka va ks vs, cv, fp, hf, h => by
    simp only [TOk] at h ⊢
    obtain ⟨b, es, clk, h1, h2, h3, h4, h5⟩ := h
    exact ⟨b, es, clk, hb _ _ h1, h2, by rw [hf b (by rw [h2]; simp)]; exact h3, Nat.lt_of_lt_of_le h4 hs.size, h5⟩
theorem topVal_same (hb : ∀ r b, β r = some b → β2 r = some b) {r off : Nat} {b : Nat} (h : isBox r = true) (hβ : β r = some b) (hs : w2.heap[b]? = w.heap[b]?) : topVal w2 β2 tm r off = topVal w β tm r off := by
  unfold topVal; rw [if_pos h, if_pos h, hβ, hb _ _ hβ]; exact cell_same hs off
theorem topVal_val {r off : Nat} (h : isBox r = false) (hcv : cvOf tm2 r = cvOf tm r) : topVal w2 β2 tm2 r off = topVal w β tm r off := by
  unfold topVal; rw [if_neg (by simp [h]), if_neg (by simp [h]), hcv]
theorem Inv.val_same (hI : Inv E w β s tm g) (hb : ∀ r b, β r = some b → β2 r = some b) {p : Pl} {x : List V × Nat} (h : s.place p = some x) (hs : ∀ b ∈ g p.r, w2.heap[b]? = w.heap[b]?)
    (hcv : isBox p.r = false → cvOf tm2 p.r = cvOf tm p.r) : plVal w2 β2 tm2 p = plVal w β tm p ∧ plAddr w2 β2 tm2 p = plAddr w β tm p := by
  obtain ⟨t, row, h1, h2, h3⟩ := place_some h
  obtain ⟨cs, f, k1, k2, k3⟩ := hI.row h1 h2
  have htop : ∀ off, topVal w2 β2 tm2 p.r off = topVal w β tm p.r off := by
    intro off
    rcases k3 with ⟨hbx, b, hβ, _, hg, _⟩ | ⟨hbx, _⟩
    · unfold topVal; rw [if_pos hbx, if_pos hbx, hβ, hb _ _ hβ]; exact cell_same (hs b (by rw [hg]; simp)) off
    · exact topVal_val hbx (hcv hbx)
  have hf : ∀ b ∈ f, w2.heap[b]? = w.heap[b]? := by
    rcases k3 with ⟨_, b, _, _, hg, _⟩ | ⟨_, hg, _⟩
    · intro x hx; exact hs x (by rw [hg]; exact List.mem_cons_of_mem _ hx)
    · intro x hx; exact hs x (by rw [hg]; exact hx)
  obtain ⟨r, off, path, ver⟩ := p
  cases path with
  | nil =>
    simp only [plVal, plAddr]
    refine ⟨htop off, ?_⟩
    split
    · rename_i hbx
      rcases k3 with ⟨_, b, hβ, _⟩ | ⟨hbx', _⟩
      · simp only at hβ; rw [hβ, hb _ _ hβ]
      · rw [hbx] at hbx'; simp at hbx'
    · rfl
  | cons st q =>
    obtain ⟨row', o⟩ := x
    obtain ⟨hv, b, base, cs', fp', rest, m1, m2, _, _, _, _, _, m8⟩ := getRow_rep k1 h3
    have htv : topVal w β tm r off = some hv := by
      have : ∃ x, row[off]? = some x ∧ x ≠ .dead := by
        obtain ⟨i, sz, o1⟩ := st
        simp only [getRow] at h3
        split at h3
        · rename_i heq; exact ⟨_, heq, by simp⟩
        · simp at h3
      obtain ⟨x, hx, hd⟩ := this
      rw [k2 off x hx hd, m1]
    have ha : plAddr w2 β2 tm2 ⟨r, off, st :: q, ver⟩ = plAddr w β tm ⟨r, off, st :: q, ver⟩ := by
      simp only [plAddr]
      rw [htop off, htv]
      exact follow_same k1 h3 hf m1
    refine ⟨?_, ha⟩
    simp only [plVal]
    rw [ha]
    have hadd : plAddr w β tm ⟨r, off, st :: q, ver⟩ = some (b, base + o) := by
      simp only [plAddr, htv]; exact m2
    rw [hadd]
    exact cell_same (hf b ((m8.mem_iff).2 (by simp))) _
theorem Inv.world (hI : Inv E w β s tm g) (hs : Stp E w E2 w2) (hsame : ∀ i, ∀ x ∈ g i, w2.heap[x]? = w.heap[x]?) (hown : ∀ i b, b ∈ g i → E2.own b)
    (hsmall : ∀ b, w2.heap.size ≤ b → E2.tag b = none) : Inv E2 w2 β s tm g := by
  have step : ∀ t cv fp, (∀ x ∈ fp, w2.heap[x]? = w.heap[x]?) → TOk E w β s tm t cv fp → TOk E2 w2 β s tm t cv fp :=
    TOk.step hs (fun _ _ h => h) (fun _ h => h)
      (fun p l sz rows _ hc => by
        have hp : ∃ x, s.place p = some x := by
          unfold St.cell at hc; split at hc
          · exact ⟨_, by assumption⟩
          · simp at hc
        obtain ⟨x, hp⟩ := hp
        exact ⟨⟨l, rows, hc, rfl⟩, (hI.val_same (fun _ _ h => h) hp (hsame p.r) (fun _ => rfl)).1⟩)
      (fun p _ _ hp => by
        obtain ⟨x, hp'⟩ := Option.isSome_iff_exists.1 hp
        exact ⟨hp, (hI.val_same (fun _ _ h => h) hp' (hsame p.r) (fun _ => rfl)).2⟩)
  refine ⟨fun i t v hg => ?_, hI.absent, fun i b hb => ⟨hown i b hb, ?_, Nat.lt_of_lt_of_le (hI.own i b hb).2.2 hs.size⟩, hI.nodup, hI.disj, hI.box, hsmall⟩
  · have := hI.roots i t v hg
    unfold RootOk at this ⊢
    split
    · rename_i hbx
      rw [if_pos hbx] at this
      obtain ⟨b, cs, f, row, h1, h2, h3, h4, h5, h6, h7⟩ := this
      have hgb := hsame i b (by rw [h3]; simp)
      exact ⟨b, cs, f, row, h1, h2, h3, h4.frame hs (fun _ _ h => h) _ _ _ (fun x hx => hsame i x (by rw [h3]; simp [hx])), h5.same hgb, h6.same hgb, Nat.lt_of_lt_of_le h7 hs.size⟩
    · rename_i hbx
      rw [if_neg hbx] at this
      exact step _ _ _ (hsame i) this
  · rw [hs.tag b (hI.own i b hb).2.2]; exact (hI.own i b hb).2.1
end
end Pv

namespace Pv
open Go
section
variable {E E2 : Env} {w w2 : World} {β β2 : Nat → Option Nat} {s s2 : St} {tm tm2 : Array Value} {g : Nat → List Nat}
theorem Stp.refl (E : Env) (w : World) : Stp E w E w := ⟨Nat.le_refl _, fun _ _ h => ⟨rfl, h⟩, fun _ _ _ => rfl, fun _ _ => rfl, rfl⟩
theorem cell_place {p : Pl} {v : V} (h : s.cell p = some v) : ∃ r o, s.place p = some (r, o) ∧ r[o]? = some v := by
  unfold St.cell at h; split at h
  · rename_i r o hp; exact ⟨r, o, hp, h⟩
  · simp at h
theorem place_congr {p : Pl} (h : s2.get p.r = s.get p.r) : s2.place p = s.place p := by unfold St.place; rw [h]
theorem cell_congr {p : Pl} (h : s2.get p.r = s.get p.r) : s2.cell p = s.cell p := by unfold St.cell; rw [place_congr h]
theorem get_drop (s : St) (d j : Nat) : (s.drop d).get j = if 30000 ≤ j ∧ (j - 30000) / 100 = d then none else s.get j := by
  unfold St.drop
  have := get_filter s (fun x => !(decide (30000 ≤ x) && decide ((x - 30000) / 100 = d))) j
  rw [this]
  by_cases h : 30000 ≤ j ∧ (j - 30000) / 100 = d
  · rw [if_pos h, if_neg (by simp [h.1, h.2])]
  · rw [if_neg h, if_pos]
    simp only [Bool.not_eq_true', Bool.and_eq_false_iff, decide_eq_false_iff_not]
    by_cases h1 : 30000 ≤ j
    · exact .inr (fun h2 => h ⟨h1, h2⟩)
    · exact .inl h1
theorem cvOf_set {d i : Nat} {cv : Value} (h : i < 30000) (hne : i ≠ d) : cvOf (tm.setIfInBounds d cv) i = cvOf tm i := by
  unfold cvOf
  rw [if_neg (by omega), if_neg (by omega)]
  simp only [Array.getD_eq_getD_getElem?]
  rw [Array.getElem?_setIfInBounds_ne (fun h => hne h.symm)]
theorem cvOf_set_part {d i : Nat} {cv : Value} (h : 30000 ≤ i) (hne : (i - 30000) / 100 ≠ d) : cvOf (tm.setIfInBounds d cv) i = cvOf tm i := by
  unfold cvOf
  rw [if_pos h, if_pos h]
  simp only [Array.getD_eq_getD_getElem?]
  rw [Array.getElem?_setIfInBounds_ne (fun h => hne h.symm)]
theorem cvOf_set_same {d : Nat} {cv : Value} (hd : d < 30000) (h : d < tm.size) : cvOf (tm.setIfInBounds d cv) d = cv := by
  unfold cvOf
  rw [if_neg (by omega)]
  simp [Array.getD_eq_getD_getElem?, h]
def verNew (s : St) (d : Nat) : Nat := match s.get d with | some x => x.2 + 1 | none => 0
theorem Inv.setDst (hI : Inv E w β s tm g) {d : Nat} (hd : d < 5000) (hsz : d < tm.size) {t : T} {cv : Value} {ft : List Nat} (ht : TOk E w β s tm t cv ft)
    (hft : ft.Nodup) (hfo : ∀ b ∈ ft, E.own b ∧ E.tag b = none ∧ b < w.heap.size) (hfd : ∀ i, i ≠ d → ∀ b ∈ ft, b ∉ g i) :
    Inv E w β ((s.drop d).set d (t, verNew s d)) (tm.setIfInBounds d cv) (fun i => if i = d then ft else if 30000 ≤ i ∧ (i - 30000) / 100 = d then [] else g i) := by
  have hget : ∀ j, ((s.drop d).set d (t, verNew s d)).get j = if d = j then some (t, verNew s d) else if 30000 ≤ j ∧ (j - 30000) / 100 = d then none else s.get j := by
    intro j; rw [get_set, get_drop]
  have hnb : isBox d = false := by simp [isBox]; omega
  have hA1 : ∀ p, AlOk s p → AlOk ((s.drop d).set d (t, verNew s d)) p := by
    rintro p ⟨h1, t', v', h2, h3⟩
    refine ⟨h1, ?_⟩
    rw [hget]
    by_cases hr : d = p.r
    · rw [if_pos hr]
      refine ⟨_, _, rfl, ?_⟩
      unfold verNew; rw [hr, h2]; exact Nat.le_succ_of_le h3
    · rw [if_neg hr, if_neg (by omega)]; exact ⟨t', v', h2, h3⟩
  have hA2 : ∀ p x, AlOk s p → ((s.drop d).set d (t, verNew s d)).place p = some x → d ≠ p.r := by
    rintro p x ⟨h1, t', v', h2, h3⟩ hp rfl
    obtain ⟨t2, row, k1, _⟩ := place_some hp
    rw [hget, if_pos rfl] at k1
    simp only [Option.some.injEq, Prod.mk.injEq] at k1
    have := k1.2
    unfold verNew at this; rw [h2] at this; simp only at this; omega
  have hA3 : ∀ p, AlOk s p → d ≠ p.r → ((s.drop d).set d (t, verNew s d)).get p.r = s.get p.r := by
    rintro p ⟨h1, _⟩ hr
    rw [hget, if_neg hr, if_neg (by omega)]
  have hcvr : ∀ p, AlOk s p → d ≠ p.r → cvOf (tm.setIfInBounds d cv) p.r = cvOf tm p.r := fun p h hr => cvOf_set h.1 (fun e => hr e.symm)
  have stepT : ∀ t' cv' fp, TOk E w β s tm t' cv' fp → TOk E w β ((s.drop d).set d (t, verNew s d)) (tm.setIfInBounds d cv) t' cv' fp := by
    intro t' cv' fp h
    refine TOk.step (Stp.refl E w) (fun _ _ h => h) hA1 ?_ ?_ t' cv' fp (fun _ _ => rfl) h
    · intro p l sz rows hal hc
      obtain ⟨r, o, hp, _⟩ := cell_place hc
      have hr := hA2 p _ hal hp
      have hg := hA3 p hal hr
      rw [cell_congr hg] at hc
      rw [place_congr hg] at hp
      exact ⟨⟨l, rows, hc, rfl⟩, (hI.val_same (fun _ _ h => h) hp (fun _ _ => rfl) (fun _ => hcvr p hal hr)).1⟩
    · intro p hal hne hp
      obtain ⟨x, hp'⟩ := Option.isSome_iff_exists.1 hp
      have hr := hA2 p _ hal hp'
      have hg := hA3 p hal hr
      rw [place_congr hg] at hp hp'
      exact ⟨hp, (hI.val_same (fun _ _ h => h) hp' (fun _ _ => rfl) (fun _ => hcvr p hal hr)).2⟩
  refine ⟨?_, ?_, ?_, ?_, ?_, ?_, hI.small⟩
  · intro i t' v' hg
    rw [hget] at hg
    by_cases hi : d = i
    · subst hi
      rw [if_pos rfl] at hg
      simp only [Option.some.injEq, Prod.mk.injEq] at hg
      obtain ⟨rfl, _⟩ := hg
      unfold RootOk
      rw [if_neg (by simp [hnb]), if_pos rfl, cvOf_set_same (by omega) hsz]
      exact stepT _ _ _ ht
    · rw [if_neg hi] at hg
      by_cases hc : 30000 ≤ i ∧ (i - 30000) / 100 = d
      · rw [if_pos hc] at hg; simp at hg
      · rw [if_neg hc] at hg
        have h := hI.roots i t' v' hg
        have hid : ¬ i = d := fun e => hi e.symm
        unfold RootOk at h ⊢
        rw [if_neg hid, if_neg hc]
        split
        · rename_i hbx; rw [if_pos hbx] at h; exact h
        · rename_i hbx
          rw [if_neg hbx] at h
          have : cvOf (tm.setIfInBounds d cv) i = cvOf tm i := by
            by_cases h3 : 30000 ≤ i
            · exact cvOf_set_part h3 (fun e => hc ⟨h3, e⟩)
            · exact cvOf_set (by omega) (fun e => hi e.symm)
          rw [this]; exact stepT _ _ _ h
  · intro i hg
    rw [hget] at hg
    by_cases hi : d = i
    · rw [if_pos hi] at hg; simp at hg
    · rw [if_neg hi] at hg
      rw [if_neg (fun e => hi e.symm)]
      by_cases hc : 30000 ≤ i ∧ (i - 30000) / 100 = d
      · rw [if_pos hc]
      · rw [if_neg hc] at hg ⊢; exact hI.absent i hg
  · intro i b hb
    split at hb
    · exact hfo b hb
    · split at hb
      · simp at hb
      · exact hI.own i b hb
  · intro i
    split
    · exact hft
    · split
      · simp
      · exact hI.nodup i
  · intro i j hij b hb hb2
    split at hb
    · rename_i hi
      rw [if_neg (by omega)] at hb2
      split at hb2
      · simp at hb2
      · exact hfd j (by omega) b hb hb2
    · rename_i hi
      split at hb
      · simp at hb
      · split at hb2
        · exact hfd i hi b hb2 hb
        · split at hb2
          · simp at hb2
          · exact hI.disj i j hij b hb hb2
  · intro i b hb
    have h1 := hI.box i b hb
    have hlt := h1.rng
    refine h1.congr ?_
    rw [hget]
    rw [if_neg (by omega), if_neg (by omega)]
theorem Inv.setPart (hI : Inv E w β s tm g) {i : Nat} (hi : isBox i = false) (hn : s.get i = none) {t : T} {ft : List Nat} (ht : TOk E w β s tm t (cvOf tm i) ft)
    (hft : ft.Nodup) (hfo : ∀ b ∈ ft, E.own b ∧ E.tag b = none ∧ b < w.heap.size) (hfd : ∀ j, ∀ b ∈ ft, b ∉ g j) :
    Inv E w β (s.set i (t, 0)) tm (fun j => if j = i then ft else g j) := by
  have hne : ∀ p, AlOk s p → i ≠ p.r := by
    rintro p ⟨_, t', v', h, _⟩ rfl; rw [hn] at h; simp at h
  have stepT : ∀ t' cv' fp, TOk E w β s tm t' cv' fp → TOk E w β (s.set i (t, 0)) tm t' cv' fp := by
    intro t' cv' fp h
    refine TOk.step (Stp.refl E w) (fun _ _ h => h) ?_ ?_ ?_ t' cv' fp (fun _ _ => rfl) h
    · rintro p hal
      obtain ⟨h1, t', v', h2, h3⟩ := hal
      exact ⟨h1, t', v', by rw [get_set_ne _ _ (hne p ⟨h1, t', v', h2, h3⟩)]; exact h2, h3⟩
    · intro p l sz rows hal hc
      have hg : (s.set i (t, 0)).get p.r = s.get p.r := get_set_ne _ _ (hne p hal)
      rw [cell_congr hg] at hc
      exact ⟨⟨l, rows, hc, rfl⟩, rfl⟩
    · intro p hal _ hp
      have hg : (s.set i (t, 0)).get p.r = s.get p.r := get_set_ne _ _ (hne p hal)
      rw [place_congr hg] at hp
      exact ⟨hp, rfl⟩
  refine ⟨?_, ?_, ?_, ?_, ?_, ?_, hI.small⟩
  · intro j t' v' hg
    rw [get_set] at hg
    by_cases hj : i = j
    · subst hj
      rw [if_pos rfl] at hg
      simp only [Option.some.injEq, Prod.mk.injEq] at hg
      obtain ⟨rfl, _⟩ := hg
      unfold RootOk
      rw [if_neg (by simp [hi]), if_pos rfl]
      exact stepT _ _ _ ht
    · rw [if_neg hj] at hg
      have h := hI.roots j t' v' hg
      have hji : ¬ j = i := fun e => hj e.symm
      unfold RootOk at h ⊢
      rw [if_neg hji]
      split
      · rename_i hbx; rw [if_pos hbx] at h; exact h
      · rename_i hbx; rw [if_neg hbx] at h; exact stepT _ _ _ h
  · intro j hg
    rw [get_set] at hg
    by_cases hj : i = j
    · rw [if_pos hj] at hg; simp at hg
    · rw [if_neg hj] at hg
      rw [if_neg (fun e => hj e.symm)]; exact hI.absent j hg
  · intro j b hb
    split at hb
    · exact hfo b hb
    · exact hI.own j b hb
  · intro j
    split
    · exact hft
    · exact hI.nodup j
  · intro j k hjk b hb hb2
    split at hb
    · rw [if_neg (by omega)] at hb2
      exact hfd k b hb hb2
    · split at hb2
      · exact hfd j b hb2 hb
      · exact hI.disj j k hjk b hb hb2
  · intro j b hb
    have h1 := hI.box j b hb
    refine h1.congr ?_
    rw [get_set]
    by_cases hj : i = j
    · subst hj; have := h1.2; rw [hn] at this; simp at this
    · rw [if_neg hj]
end
end Pv

namespace Pv
open Go
def Env.minus (E : Env) (rel : List Nat) : Env := { E with own := fun b => E.own b ∧ b ∉ rel }
theorem Stp.minus (E : Env) (w : World) (rel : List Nat) : Stp E w (E.minus rel) w :=
  ⟨Nat.le_refl _, fun _ _ h => ⟨rfl, fun h2 => h h2.1⟩, fun _ _ _ => rfl, fun _ _ => rfl, rfl⟩
theorem back_row {t : T} {row row2 : List V} (ht : t.row? = some row) (hl : row2.length = row.length) : (t.back row2).row? = some row2 := by
  cases t with
  | one v =>
    simp only [T.row?, Option.some.injEq] at ht
    subst ht
    match row2, hl with
    | [x], _ => rfl
  | agg r => cases row2 with
    | nil => rfl
    | cons a q => cases q <;> rfl
  | _ => simp [T.row?] at ht
section
variable {E E2 : Env} {w w2 : World} {β β2 : Nat → Option Nat} {s s2 : St} {tm tm2 : Array Value} {g : Nat → List Nat}
theorem Inv.setRoot (hI : Inv E w β s tm g) (hs : Stp E w E2 w2) {r v v2 : Nat} {t : T} {row row2 : List V} (hg : s.get r = some (t, v)) (ht : t.row? = some row)
    (hl : row2.length = row.length) (hv : v ≤ v2) {fp2 : List Nat}
    (hsame : ∀ i, i ≠ r → ∀ x ∈ g i, w2.heap[x]? = w.heap[x]?)
    (hown : ∀ i b, i ≠ r → b ∈ g i → E2.own b) (hown2 : ∀ b ∈ fp2, E2.own b ∧ E2.tag b = none ∧ b < w2.heap.size)
    (hsmall : ∀ b, w2.heap.size ≤ b → E2.tag b = none) (hnd : fp2.Nodup) (hdis : ∀ i, i ≠ r → ∀ b ∈ fp2, b ∉ g i)
    (hroot : if isBox r then ∃ b cs f, β r = some b ∧ fp2 = b :: f ∧ RepRow E2 w2 β row2 cs f ∧ RowAt w2 b 0 cs ∧ Clean w2 b cs.length ∧ b < w2.heap.size
      else (∃ x, row2 = [x] ∧ (∃ y, t = .one y) ∧ Rep E2 w2 β x (cvOf tm r) fp2) ∨ ((∃ y, t = .agg y) ∧ ∃ a : Array Value, cvOf tm r = .agg a ∧ RepRow E2 w2 β row2 a.toList fp2))
    (hal : ∀ p x, AlOk s p → p.r = r → p.ver = v2 → getRow row2 p.off p.path = some x → ∃ r', getRow row p.off p.path = some (r', x.2) ∧ v = v2 ∧
      (∀ l sz rows, x.1[x.2]? = some (.sl l sz rows) → (∃ l' rows', r'[x.2]? = some (.sl l' sz rows') ∧ rows'.length = rows.length) ∧ plVal w2 β tm p = plVal w β tm p) ∧
      (p.path ≠ [] → plAddr w2 β tm p = plAddr w β tm p)) :
    Inv E2 w2 β (s.set r (t.back row2, v2)) tm (fun i => if i = r then fp2 else g i) := by
  have hrow2 := back_row ht hl
  have hplace : ∀ p x, AlOk s p → (s.set r (t.back row2, v2)).place p = some x → (p.r ≠ r ∧ s.place p = some x) ∨ (p.r = r ∧ p.ver = v2 ∧ getRow row2 p.off p.path = some x) := by
    intro p x hal hp
    by_cases hr : p.r = r
    · right
      obtain ⟨t', row', h1, h2, h3⟩ := place_some hp
      rw [hr, get_set_same] at h1
      simp only [Option.some.injEq, Prod.mk.injEq] at h1
      obtain ⟨rfl, h1⟩ := h1
      rw [hrow2] at h2
      obtain rfl := Option.some.inj h2
      exact ⟨hr, h1.symm, h3⟩
    · left
      have : (s.set r (t.back row2, v2)).get p.r = s.get p.r := get_set_ne _ _ (fun e => hr e.symm)
      rw [place_congr this] at hp
      exact ⟨hr, hp⟩
  have stepT : ∀ t' cv' fp, (∀ x ∈ fp, w2.heap[x]? = w.heap[x]?) → TOk E w β s tm t' cv' fp → TOk E2 w2 β (s.set r (t.back row2, v2)) tm t' cv' fp := by
    intro t' cv' fp hf h
    refine TOk.step hs (fun _ _ h => h) ?_ ?_ ?_ t' cv' fp hf h
    · rintro p ⟨h1, t2, v', h2, h3⟩
      refine ⟨h1, ?_⟩
      rw [get_set]
      by_cases hr : r = p.r
      · rw [if_pos hr]
        refine ⟨_, _, rfl, ?_⟩
        rw [← hr, hg] at h2
        simp only [Option.some.injEq, Prod.mk.injEq] at h2
        omega
      · rw [if_neg hr]; exact ⟨t2, v', h2, h3⟩
    · intro p l sz rows hao hc
      obtain ⟨r1, o1, hp, hcell⟩ := cell_place hc
      rcases hplace p _ hao hp with ⟨hr, hp'⟩ | ⟨hr, hver, hget⟩
      · refine ⟨⟨l, rows, ?_, rfl⟩, (hI.val_same (fun _ _ h => h) hp' (hsame p.r hr) (fun _ => rfl)).1⟩
        unfold St.cell; rw [hp']; exact hcell
      · obtain ⟨r', k1, k2, k3, _⟩ := hal p _ hao hr hver hget
        obtain ⟨⟨l', rows', k4, k5⟩, k6⟩ := k3 l sz rows hcell
        refine ⟨⟨l', rows', ?_, k5⟩, k6⟩
        unfold St.cell
        rw [place_mk (t := t) (row := row) (by rw [hr, hg, hver, k2]) ht k1]
        exact k4
    · intro p hao hne hp
      obtain ⟨x, hp'⟩ := Option.isSome_iff_exists.1 hp
      rcases hplace p _ hao hp' with ⟨hr, hp2⟩ | ⟨hr, hver, hget⟩
      · exact ⟨by rw [hp2]; rfl, (hI.val_same (fun _ _ h => h) hp2 (hsame p.r hr) (fun _ => rfl)).2⟩
      · obtain ⟨r', k1, k2, _, k3⟩ := hal p _ hao hr hver hget
        refine ⟨?_, k3 hne⟩
        rw [place_mk (t := t) (row := row) (by rw [hr, hg, hver, k2]) ht k1]; rfl
  refine ⟨?_, ?_, ?_, ?_, ?_, ?_, hsmall⟩
  · intro i t' v' hgi
    rw [get_set] at hgi
    by_cases hi : r = i
    · subst hi
      rw [if_pos rfl] at hgi
      simp only [Option.some.injEq, Prod.mk.injEq] at hgi
      obtain ⟨rfl, _⟩ := hgi
      unfold RootOk
      rw [if_pos rfl]
      split
      · rename_i hbx
        rw [if_pos hbx] at hroot
        obtain ⟨b, cs, f, h1, h2, h3, h4, h5, h6⟩ := hroot
        have h := hI.roots r t v hg
        unfold RootOk at h
        rw [if_pos hbx] at h
        obtain ⟨_, _, _, row', _, rfl, _⟩ := h
        refine ⟨b, cs, f, row2, h1, ?_, h2, h3, h4, h5, h6⟩
        cases row2 with
        | nil => rfl
        | cons a q => cases q <;> rfl
      · rename_i hbx
        rw [if_neg hbx] at hroot
        rcases hroot with ⟨x, rfl, ⟨y, rfl⟩, h⟩ | ⟨⟨y, rfl⟩, a, h1, h2⟩
        · exact h
        · have : T.back (.agg y) row2 = .agg row2 := by
            cases row2 with
            | nil => rfl
            | cons a q => cases q <;> rfl
          rw [this]
          exact ⟨a, h1, h2⟩
    · rw [if_neg hi] at hgi
      have hir : ¬ i = r := fun e => hi e.symm
      have h := hI.roots i t' v' hgi
      unfold RootOk at h ⊢
      rw [if_neg hir]
      split
      · rename_i hbx
        rw [if_pos hbx] at h
        obtain ⟨b, cs, f, row', h1, h2, h3, h4, h5, h6, h7⟩ := h
        have hgb := hsame i hir b (by rw [h3]; simp)
        exact ⟨b, cs, f, row', h1, h2, h3, h4.frame hs (fun _ _ h => h) _ _ _ (fun x hx => hsame i hir x (by rw [h3]; simp [hx])), h5.same hgb, h6.same hgb, Nat.lt_of_lt_of_le h7 hs.size⟩
      · rename_i hbx
        rw [if_neg hbx] at h
        exact stepT _ _ _ (hsame i hir) h
  · intro i hgi
    rw [get_set] at hgi
    by_cases hi : r = i
    · rw [if_pos hi] at hgi; simp at hgi
    · rw [if_neg hi] at hgi
      rw [if_neg (fun e => hi e.symm)]; exact hI.absent i hgi
  · intro i b hb
    split at hb
    · exact hown2 b hb
    · rename_i hi
      have := hI.own i b hb
      exact ⟨hown i b hi hb, by rw [hs.tag b this.2.2]; exact this.2.1, Nat.lt_of_lt_of_le this.2.2 hs.size⟩
  · intro i
    split
    · exact hnd
    · exact hI.nodup i
  · intro i j hij b hb hb2
    split at hb
    · rename_i hi
      rw [if_neg (by omega)] at hb2
      exact hdis j (by omega) b hb hb2
    · rename_i hi
      split at hb2
      · exact hdis i hi b hb2 hb
      · exact hI.disj i j hij b hb hb2
  · intro i b hb
    have h1 := hI.box i b hb
    by_cases hi : r = i
    · refine ⟨?_, by rw [get_set, if_pos hi]; rfl⟩
      rcases h1.1 with h | ⟨_, ka, va, ks, vs, v', h⟩
      · exact .inl h
      · rw [← hi, hg] at h
        simp only [Option.some.injEq, Prod.mk.injEq] at h
        rw [h.1] at ht; simp [T.row?] at ht
    · exact h1.congr (by rw [get_set, if_neg hi])
theorem Nodup.of_perm {a b : List Nat} (h : a.Perm b) (hb : a.Nodup) : b.Nodup := h.nodup_iff.1 hb
theorem Inv.lower (hI : Inv E w β s tm g) {p : Pl} {t : T} {row row2 xs : List V} (hg : s.get p.r = some (t, p.ver)) (ht : t.row? = some row) (hset : setRow row p.off p.path xs = some row2)
    (hx : ∀ (k : Nat) (v : V), xs[k]? = some v → v.noOwn = true ∨ v = .dead) (hxp : p.path ≠ [] → xs.all V.noPtr = true)
    (hsl : ∀ (r : List V) (o k : Nat) (l : Lab) (sz : Nat) (rows : List (List V)), getRow row p.off p.path = some (r, o) → xs[k]? = some (.sl l sz rows) → ∃ (l' : Lab) (rows' : List (List V)), r[o + k]? = some (.sl l' sz rows') ∧ rows'.length = rows.length) :
    ∃ r' o cS fS, getRow row p.off p.path = some (r', o) ∧ o + xs.length ≤ r'.length ∧ RepRow E w β ((r'.drop o).take xs.length) cS fS ∧ (∀ x ∈ fS, x ∈ g p.r) ∧ fS.Nodup ∧
      (∀ k v, ((r'.drop o).take xs.length)[k]? = some v → v ≠ .dead → plVal w β tm (shift p k) = cS[k]?) ∧
      (isBox p.r = false → p.path = [] → ∃ cA cB, cA.length = p.off ∧ (∀ v, t = .one v → cA ++ cS ++ cB = [cvOf tm p.r]) ∧ (∀ y, t = .agg y → ∃ a : Array Value, cvOf tm p.r = .agg a ∧ a.toList = cA ++ cS ++ cB)) ∧
      ∀ rel, (∀ x ∈ rel, x ∈ fS) → RepRow (E.minus rel) w β xs cS [] →
        ∃ fp2, Inv (E.minus rel) w β (s.set p.r (t.back row2, p.ver)) tm (fun i => if i = p.r then fp2 else g i) ∧ (g p.r).Perm (fS ++ fp2) := by
  obtain ⟨cs, f, k1, k2, k3⟩ := hI.row hg ht
  have hlen : row2.length = row.length := setRow_len hset
  have hal : ∀ p' x, AlOk s p' → p'.r = p.r → p'.ver = p.ver → getRow row2 p'.off p'.path = some x → ∃ r', getRow row p'.off p'.path = some (r', x.2) ∧ p.ver = p.ver ∧
      (∀ l sz rows, x.1[x.2]? = some (.sl l sz rows) → (∃ l' rows', r'[x.2]? = some (.sl l' sz rows') ∧ rows'.length = rows.length) ∧ plVal w β tm p' = plVal w β tm p') ∧
      (p'.path ≠ [] → plAddr w β tm p' = plAddr w β tm p') := by
    intro p' x _ _ _ hget
    obtain ⟨r', h1, _, h3⟩ := low_get hx hset hsl hget
    exact ⟨r', h1, rfl, fun l sz rows h => ⟨h3 _ l sz rows h, rfl⟩, fun _ => rfl⟩
  have hminus : ∀ (rel fS : List Nat), (∀ x ∈ rel, x ∈ fS) → (∀ x ∈ fS, x ∈ g p.r) → ∀ i b, i ≠ p.r → b ∈ g i → (E.minus rel).own b := by
    intro rel fS h1 h2 i b hi hb
    exact ⟨(hI.own i b hb).1, fun hb2 => hI.disj i p.r hi b hb (h2 b (h1 b hb2))⟩
  have fin : ∀ (rel fS fp2 : List Nat), (∀ x ∈ rel, x ∈ fS) → (∀ x ∈ fS, x ∈ g p.r) → (g p.r).Perm (fS ++ fp2) →
      (if isBox p.r then ∃ b cs f, β p.r = some b ∧ fp2 = b :: f ∧ RepRow (E.minus rel) w β row2 cs f ∧ RowAt w b 0 cs ∧ Clean w b cs.length ∧ b < w.heap.size
        else (∃ x, row2 = [x] ∧ (∃ y, t = .one y) ∧ Rep (E.minus rel) w β x (cvOf tm p.r) fp2) ∨ ((∃ y, t = .agg y) ∧ ∃ a : Array Value, cvOf tm p.r = .agg a ∧ RepRow (E.minus rel) w β row2 a.toList fp2)) →
      Inv (E.minus rel) w β (s.set p.r (t.back row2, p.ver)) tm (fun i => if i = p.r then fp2 else g i) := by
    intro rel fS fp2 h1 h2 hperm hroot
    have hnd := Nodup.of_perm hperm (hI.nodup p.r)
    have hsub : ∀ b ∈ fp2, b ∈ g p.r := fun b hb => hperm.mem_iff.2 (by simp [hb])
    refine hI.setRoot (Stp.minus E w rel) hg ht hlen (Nat.le_refl _) (fun _ _ _ _ => rfl) (hminus rel fS h1 h2) (fun b hb => ?_) hI.small (List.nodup_append.1 hnd).2.1 (fun i hi b hb hb2 => hI.disj i p.r hi b hb2 (hsub b hb)) hroot hal
    refine ⟨⟨(hI.own _ b (hsub b hb)).1, fun hr => ?_⟩, (hI.own _ b (hsub b hb)).2⟩
    exact (List.nodup_append.1 hnd).2.2 b (h1 b hr) b hb rfl
  obtain ⟨r, off, path, ver⟩ := p
  cases path with
  | nil =>
    simp only [setRow] at hset
    split at hset
    case isFalse => simp at hset
    rename_i hfit
    obtain rfl := Option.some.inj hset
    obtain ⟨cA, cS, cB, fA, fS, fB, m1, m2, m3, m4, m5, m6, m7⟩ := splice_split k1 hfit
    have hfSg : ∀ x ∈ fS, x ∈ g r := by
      intro x hx
      rcases k3 with ⟨_, b, _, _, h5, _⟩ | ⟨_, h5, _⟩
      · rw [h5, m2]; simp [hx]
      · rw [h5, m2]; simp [hx]
    have hndS : fS.Nodup := by
      have hn := hI.nodup r
      rcases k3 with ⟨_, b, _, _, h5, _⟩ | ⟨_, h5, _⟩
      · simp only at h5; rw [h5, m2] at hn
        have := (List.nodup_cons.1 hn).2
        exact (List.nodup_append.1 (List.nodup_append.1 this).1).2.1
      · simp only at h5; rw [h5, m2] at hn
        exact (List.nodup_append.1 (List.nodup_append.1 hn).1).2.1
    refine ⟨row, off, cS, fS, rfl, hfit, m6, hfSg, hndS, ?_, ?_, ?_⟩
    · intro k v hk hd
      have hkl : k < xs.length := by
        have := (List.getElem?_eq_some_iff.1 hk).1
        simp only [List.length_take] at this; omega
      have hrow : row[off + k]? = some v := by
        rw [List.getElem?_take_of_lt hkl, List.getElem?_drop] at hk; exact hk
      simp only [shift, plVal]
      rw [k2 _ v hrow hd, m1, List.append_assoc, List.getElem?_append_right (by omega), List.getElem?_append_left (by omega)]
      congr 1; omega
    · intro hbx _
      rcases k3 with ⟨hbx', _⟩ | ⟨_, _, ⟨v, h6, h7, h8⟩ | ⟨h6, a, h7, h8⟩⟩
      · simp only at hbx'; rw [hbx] at hbx'; simp at hbx'
      · exact ⟨cA, cB, m3, fun v' _ => by rw [← m1, h8], fun y hy => by rw [h7] at hy; simp at hy⟩
      · exact ⟨cA, cB, m3, fun v' hv' => by rw [h6] at hv'; simp at hv', fun y _ => ⟨a, h7, by rw [← h8, m1]⟩⟩
    · intro rel hrel hxs
      have hnew : RepRow (E.minus rel) w β (splice row off xs) cs (fA ++ fB) := by
        have := RepRow.append (RepRow.append (m5.frame (Stp.minus E w rel) (fun _ _ h => h) _ _ _ fun _ _ => rfl) hxs) (m7.frame (Stp.minus E w rel) (fun _ _ h => h) _ _ _ fun _ _ => rfl)
        rw [List.append_nil] at this
        rw [m1]; exact this
      rcases k3 with ⟨hbx, b, h3, h4, h5, h6, h7, h8⟩ | ⟨hbx, h5, h6⟩
      · refine ⟨b :: (fA ++ fB), fin rel fS _ hrel hfSg ?_ ?_, ?_⟩
        · simp only at h5; rw [h5, m2, List.perm_iff_count]; intro x; simp only [List.count_append, List.count_cons]; omega
        · rw [if_pos hbx]; exact ⟨b, cs, fA ++ fB, h3, rfl, hnew, h6, h7, h8⟩
        · simp only at h5; rw [h5, m2, List.perm_iff_count]; intro x; simp only [List.count_append, List.count_cons]; omega
      · refine ⟨fA ++ fB, fin rel fS _ hrel hfSg ?_ ?_, ?_⟩
        · simp only at h5; rw [h5, m2, List.perm_iff_count]; intro x; simp only [List.count_append]; omega
        · rw [if_neg (by rw [hbx]; simp)]
          rcases h6 with ⟨v, h6, h7, h8⟩ | ⟨h6, a, h7, h8⟩
          · left
            obtain ⟨x, hx1⟩ : ∃ x, splice row off xs = [x] := List.length_eq_one_iff.1 (by rw [hlen, h6]; rfl)
            refine ⟨x, hx1, ⟨v, h7⟩, ?_⟩
            rw [hx1, h8] at hnew
            simp only [RepRow] at hnew
            obtain ⟨c, cs', f1, f2, e1, e2, e3, rfl, rfl⟩ := hnew
            simp only [List.cons.injEq] at e1
            rw [e2, e1.1, List.append_nil]; exact e3
          · right; exact ⟨⟨_, h6⟩, a, h7, by rw [← h8]; exact hnew⟩
        · simp only at h5; rw [h5, m2, List.perm_iff_count]; intro x; simp only [List.count_append]; omega
  | cons st q =>
    obtain ⟨hv, b, base, row', o, cA, cS, cB, fA, fS, fB, rest, m1, m2, m3, m3', m4, m5, m6, m7, m8, m9, m10, m11⟩ := setRow_rep (hxp (by simp)) k1 hset
    have hfS : ∀ x ∈ fS, x ∈ f := fun x hx => m10.mem_iff.2 (by simp [hx])
    have hfg : ∀ x ∈ f, x ∈ g r := by
      rcases k3 with ⟨_, b, _, _, h5, _⟩ | ⟨_, h5, _⟩
      · intro x hx; simp only at h5; rw [h5]; exact List.mem_cons_of_mem _ hx
      · intro x hx; simp only at h5; rw [h5]; exact hx
    have hfnd : f.Nodup := by
      have hn := hI.nodup r
      rcases k3 with ⟨_, b, _, _, h5, _⟩ | ⟨_, h5, _⟩
      · simp only at h5; rw [h5] at hn; exact (List.nodup_cons.1 hn).2
      · simp only at h5; rw [h5] at hn; exact hn
    have hndS : fS.Nodup := by
      have := Nodup.of_perm m10 hfnd
      have h2 := (List.nodup_cons.1 this).2
      exact (List.nodup_append.1 (List.nodup_append.1 (List.nodup_append.1 h2).1).1).2.1
    refine ⟨row', o, cS, fS, m3, m3', m4, fun x hx => hfg x (hfS x hx), hndS, ?_, fun _ h => absurd h (by simp), ?_⟩
    · intro k v hk hd
      have hpl : s.place ⟨r, off, st :: q, ver⟩ = some (row', o) := place_mk hg ht m3
      obtain ⟨cs2, f2, n1, n2, n3, n4⟩ := hI.seg hpl
      obtain ⟨b2, base2, n5, n6, n7, n8, n9⟩ := n4 (by simp)
      have hkl : k < xs.length := by
        have := (List.getElem?_eq_some_iff.1 hk).1
        simp only [List.length_take] at this; omega
      have hrow : row'[o + k]? = some v := by
        rw [List.getElem?_take_of_lt hkl, List.getElem?_drop] at hk; exact hk
      have ha := n6 k
      obtain ⟨st', q', e⟩ := shiftPath_cons st q k
      simp only [shift, e] at ha
      simp only [shift, plVal, e, ha]
      have htop : topVal w β tm r off = some hv := by
        have : ∃ x, row[off]? = some x ∧ x ≠ .dead := by
          obtain ⟨i, sz, o1⟩ := st
          simp only [getRow] at m3
          split at m3
          · rename_i heq; exact ⟨_, heq, by simp⟩
          · simp at m3
        obtain ⟨x, hx, hd⟩ := this
        rw [k2 off x hx hd, m1]
      have hb2 : (b2, base2 + (o + k)) = (b, base + o + k) := by
        have := follow_shift (w := w) q st hv k b (base + o) m2
        rw [e] at this
        simp only [plAddr, htop, this, Option.some.injEq] at ha
        exact ha.symm
      simp only [Prod.mk.injEq] at hb2
      rw [hb2.1, hb2.2]
      obtain ⟨c, hc⟩ : ∃ c, cS[k]? = some c := ⟨cS[k]'(by omega), by simp⟩
      rw [hc]
      have := m5 (o + k) c (by rw [List.append_assoc, List.getElem?_append_right (by omega), List.getElem?_append_left (by omega), ← hc]; congr 1; omega)
      rwa [← Nat.add_assoc] at this
    · intro rel hrel hxs
      obtain ⟨fp2, n1, n2⟩ := m11 (E.minus rel) w β cS [] (Stp.minus E w rel) (fun _ _ h => h) hxs (fun _ _ => rfl)
        (by rw [RowAt.append, RowAt.append, m6] at m5; exact m5.1.2) (fun _ _ => rfl) (fun _ h => h)
      have hperm : f.Perm (fS ++ fp2) := by
        rw [List.perm_iff_count] at m10 n2 ⊢
        intro x
        have h1 := m10 x; have h2 := n2 x
        simp only [List.count_append, List.count_cons, List.append_nil] at h1 h2 ⊢; omega
      rcases k3 with ⟨hbx, b', h3, h4, h5, h6, h7, h8⟩ | ⟨hbx, h5, h6⟩
      · have hperm2 : (g r).Perm (fS ++ (b' :: fp2)) := by
          simp only at h5; rw [h5]
          rw [List.perm_iff_count] at hperm ⊢
          intro x; have := hperm x
          simp only [List.count_append, List.count_cons] at this ⊢; omega
        refine ⟨b' :: fp2, fin rel fS _ hrel (fun x hx => hfg x (hfS x hx)) hperm2 ?_, hperm2⟩
        rw [if_pos hbx]; exact ⟨b', cs, fp2, h3, rfl, n1, h6, h7, h8⟩
      · have hperm2 : (g r).Perm (fS ++ fp2) := by simp only at h5; rw [h5]; exact hperm
        refine ⟨fp2, fin rel fS _ hrel (fun x hx => hfg x (hfS x hx)) hperm2 ?_, hperm2⟩
        rw [if_neg (by rw [hbx]; simp)]
        rcases h6 with ⟨v, h6, h7, h8⟩ | ⟨h6, a, h7, h8⟩
        · left
          obtain ⟨x, hx1⟩ : ∃ x, row2 = [x] := List.length_eq_one_iff.1 (by rw [hlen, h6]; rfl)
          refine ⟨x, hx1, ⟨v, h7⟩, ?_⟩
          rw [hx1, h8] at n1
          simp only [RepRow] at n1
          obtain ⟨c, cs', f1, f2, e1, e2, e3, rfl, rfl⟩ := n1
          simp only [List.cons.injEq] at e1
          rw [e2, e1.1, List.append_nil]; exact e3
        · right; exact ⟨⟨_, h6⟩, a, h7, by rw [← h8]; exact n1⟩
end
end Pv

namespace Pv
open Go
def putCells (w : World) (b o : Nat) : List Value → World
  | [] => w
  | c :: cs => putCells (w.setCell ⟨b, o, none⟩ c) b (o + 1) cs
structure Wf (w w2 : World) : Prop where
  os : w2.os = w.os
  output : w2.output = w.output
theorem Wf.refl (w : World) : Wf w w := ⟨rfl, rfl⟩
theorem Wf.trans {a b c : World} (h : Wf a b) (k : Wf b c) : Wf a c := ⟨k.os.trans h.os, k.output.trans h.output⟩
theorem setCell_other {w : World} {b o b2 : Nat} {v : Value} (h : b2 ≠ b) : (w.setCell ⟨b, o, none⟩ v).heap[b2]? = w.heap[b2]? := by
  simp only [World.setCell]; rw [Array.getElem?_modify]; rw [if_neg (fun e => h e.symm)]
theorem setCell_here {w : World} {b o : Nat} {v : Value} {c : Array Value} {e : TypeId} (h : w.heap[b]? = some (.cells c e (0, 0))) :
    (w.setCell ⟨b, o, none⟩ v).heap[b]? = some (.cells (c.setIfInBounds o v) e (0, 0)) := by
  simp only [World.setCell]; rw [Array.getElem?_modify]; simp [h]
theorem setCell_size {w : World} {b o : Nat} {v : Value} : (w.setCell ⟨b, o, none⟩ v).heap.size = w.heap.size := by
  simp [World.setCell]
theorem putCells_size : ∀ (cs : List Value) (w : World) (b o : Nat), (putCells w b o cs).heap.size = w.heap.size
  | [], _, _, _ => rfl
  | c :: cs, w, b, o => by simp only [putCells]; rw [putCells_size cs, setCell_size]
theorem putCells_wf : ∀ (cs : List Value) (w : World) (b o : Nat), Wf w (putCells w b o cs)
  | [], _, _, _ => Wf.refl _
  | c :: cs, w, b, o => by simp only [putCells]; exact Wf.trans (b := w.setCell ⟨b, o, none⟩ c) ⟨rfl, rfl⟩ (putCells_wf cs _ b (o + 1))
theorem putCells_other : ∀ (cs : List Value) (w : World) (b o : Nat) {b2 : Nat}, b2 ≠ b → (putCells w b o cs).heap[b2]? = w.heap[b2]?
  | [], _, _, _, _, _ => rfl
  | c :: cs, w, b, o, b2, h => by simp only [putCells]; rw [putCells_other cs _ b (o + 1) h, setCell_other h]
theorem putCells_clean : ∀ (cs : List Value) (w : World) (b o : Nat) {n : Nat}, Clean w b n → Clean (putCells w b o cs) b n
  | [], _, _, _, _, h => h
  | c :: cs, w, b, o, n, ⟨d, e, h1, h2⟩ => by
    simp only [putCells]
    exact putCells_clean cs _ b (o + 1) ⟨_, e, setCell_here h1, by simpa using h2⟩
theorem setCell_cell {w : World} {b o j n : Nat} {v : Value} (h : Clean w b n) : (w.setCell ⟨b, o, none⟩ v).cell? ⟨b, j, none⟩ = if j = o ∧ o < n then some v else
    if j = o then (w.setCell ⟨b, o, none⟩ v).cell? ⟨b, o, none⟩ else w.cell? ⟨b, j, none⟩ := by
  obtain ⟨d, e, h1, h2⟩ := h
  simp only [World.cell?, setCell_here h1, h1]
  by_cases hj : j = o
  · subst hj
    by_cases hn : j < n
    · simp [hn, show j < d.size from by omega]
    · simp [hn]
  · simp only [hj, false_and, if_false]
    simp [Array.getElem?_setIfInBounds_ne (fun e => hj e.symm)]
theorem putCells_far : ∀ (cs : List Value) (w : World) (b o : Nat) {n j : Nat}, Clean w b n → (j < o ∨ o + cs.length ≤ j) → (putCells w b o cs).cell? ⟨b, j, none⟩ = w.cell? ⟨b, j, none⟩
  | [], _, _, _, _, _, _, _ => rfl
  | c :: cs, w, b, o, n, j, h, hj => by
    simp only [putCells]
    have hc : Clean (w.setCell ⟨b, o, none⟩ c) b n := putCells_clean [c] w b o h
    rw [putCells_far cs _ b (o + 1) hc (by simp only [List.length_cons] at hj; omega), setCell_cell h]
    simp only [List.length_cons] at hj
    rw [if_neg (by omega), if_neg (by omega)]
theorem putCells_at : ∀ (cs : List Value) (w : World) (b o : Nat) {n : Nat}, Clean w b n → o + cs.length ≤ n → RowAt (putCells w b o cs) b o cs
  | [], _, _, _, _, _, _ => by intro j v hj; simp at hj
  | c :: cs, w, b, o, n, h, hl => by
    simp only [List.length_cons] at hl
    have hc : Clean (w.setCell ⟨b, o, none⟩ c) b n := putCells_clean [c] w b o h
    intro j v hj
    simp only [putCells]
    cases j with
    | zero =>
      simp only [List.getElem?_cons_zero, Option.some.injEq] at hj
      subst hj
      rw [Nat.add_zero, putCells_far cs _ b (o + 1) hc (.inl (by omega)), setCell_cell h, if_pos ⟨rfl, by omega⟩]
    | succ j =>
      rw [List.getElem?_cons_succ] at hj
      have := putCells_at cs _ b (o + 1) hc (by omega) j v hj
      rwa [show o + 1 + j = o + (j + 1) from by omega] at this
section
variable {E : Env} {w : World} {β : Nat → Option Nat} {s : St} {tm : Array Value} {g : Nat → List Nat}
theorem RepRow.sca : ∀ {xs : List V} {cs : List Value} {f : List Nat}, RepRow E w β xs cs f → xs.all V.isSc = true → f = [] ∧ ∀ (k : Nat) (c : Value), cs[k]? = some c → isSca c = true
  | [], _, _, h, _ => by simp only [RepRow] at h; simp [h.1, h.2]
  | v :: r, cs, f, h, hs => by
    simp only [RepRow] at h
    obtain ⟨c, cs', f1, f2, rfl, rfl, h3, h4⟩ := h
    simp only [List.all_cons, Bool.and_eq_true] at hs
    obtain ⟨h5, h6⟩ := RepRow.sca h4 hs.2
    cases v <;> simp [V.isSc] at hs
    simp only [Rep] at h3
    refine ⟨by rw [h3.2.2, h5]; rfl, ?_⟩
    intro k x hk
    cases k with
    | zero => simp only [List.getElem?_cons_zero, Option.some.injEq] at hk; rw [← hk, h3.1]; exact h3.2.1
    | succ k => rw [List.getElem?_cons_succ] at hk; exact h6 k x hk
theorem Inv.store (hI : Inv E w β s tm g) {p : Pl} {t : T} {row row2 xs : List V} {bump : Bool} (hg : s.get p.r = some (t, p.ver)) (ht : t.row? = some row) (hset : setRow row p.off p.path xs = some row2)
    (hmem : p.path = [] → isBox p.r = true) (hxp : p.path ≠ [] → xs.all V.noPtr = true)
    (hbump : bump = false → xs.all V.isSc = true ∧ ∀ r o, getRow row p.off p.path = some (r, o) → ((r.drop o).take xs.length).all V.isSc = true)
    {cX : List Value} {fX : List Nat} (hX : RepRow E w β xs cX fX) (hXn : fX.Nodup) (hXo : ∀ b ∈ fX, E.own b ∧ E.tag b = none ∧ b < w.heap.size) (hXd : ∀ i, ∀ b ∈ fX, b ∉ g i) :
    ∃ b o, plAddr w β tm p = some (b, o) ∧ Clean w b (o + xs.length) ∧ b ∈ g p.r ∧ (∀ k, k < xs.length → (w.cell? ⟨b, o + k, none⟩).isSome) ∧
      ∃ fp2, Inv E (putCells w b o cX) β (s.set p.r (t.back row2, if bump then p.ver + 1 else p.ver)) tm (fun i => if i = p.r then fp2 else g i) ∧ (∀ x ∈ fp2, x ∈ g p.r ∨ x ∈ fX) := by
  obtain ⟨cs, f, k1, k2, k3⟩ := hI.row hg ht
  have hlen : row2.length = row.length := setRow_len hset
  have hXl : cX.length = xs.length := hX.len
  obtain ⟨r, off, path, ver⟩ := p
  have main : ∀ (b o : Nat) (cS : List Value) (fS fp2 : List Nat), b ∈ g r → RowAt w b o cS → cS.length = xs.length → Clean w b (o + xs.length) →
      (bump = false → ∀ (k : Nat) (c : Value), cS[k]? = some c → isSca c = true) → (∀ x ∈ fp2, x ∈ g r ∨ x ∈ fX) → fp2.Nodup →
      (Stp E w E (putCells w b o cX) → (if isBox r then ∃ b' cs' f', β r = some b' ∧ fp2 = b' :: f' ∧ RepRow E (putCells w b o cX) β row2 cs' f' ∧ RowAt (putCells w b o cX) b' 0 cs' ∧ Clean (putCells w b o cX) b' cs'.length ∧ b' < (putCells w b o cX).heap.size
        else (∃ x, row2 = [x] ∧ (∃ y, t = .one y) ∧ Rep E (putCells w b o cX) β x (cvOf tm r) fp2) ∨ ((∃ y, t = .agg y) ∧ ∃ a : Array Value, cvOf tm r = .agg a ∧ RepRow E (putCells w b o cX) β row2 a.toList fp2))) →
      Inv E (putCells w b o cX) β (s.set r (t.back row2, if bump then ver + 1 else ver)) tm (fun i => if i = r then fp2 else g i) := by
    intro b o cS fS fp2 hb hcS hlS hcl hsca hsub hnd hroot
    have hbo := hI.own r b hb
    have hst : Stp E w E (putCells w b o cX) := by
      refine ⟨Nat.le_of_eq (putCells_size cX w b o).symm, fun x hx hn => ⟨putCells_other cX w b o (fun e => hn (e ▸ hbo.1)), hn⟩, fun x hx hn => putCells_other cX w b o (fun e => hn (e ▸ hbo.2.1)), fun _ _ => rfl, rfl⟩
    refine hI.setRoot hst hg ht hlen (by split <;> simp only <;> omega) (fun i hi x hx => putCells_other cX w b o (fun e => hI.disj i r hi x hx (e ▸ hb)))
      (fun i b' _ hb' => (hI.own i b' hb').1) ?_ (by rw [putCells_size]; exact hI.small) hnd ?_ (hroot hst) ?_
    · intro x hx
      rw [putCells_size]
      rcases hsub x hx with h | h
      · exact hI.own r x h
      · exact hXo x h
    · intro i hi x hx hx2
      rcases hsub x hx with h | h
      · exact hI.disj i r hi x hx2 h
      · exact hXd i x h hx2
    · intro p' x hao hr hver hget
      cases hbp : bump with
      | true =>
        rw [hbp] at hver
        simp only [if_true] at hver
        obtain ⟨_, t', v', h2, h3⟩ := hao
        rw [hr, hg] at h2
        simp only [Option.some.injEq, Prod.mk.injEq] at h2
        omega
      | false =>
        obtain ⟨hxsc, hold⟩ := hbump hbp
        have hxk : ∀ (k : Nat) (v : V), xs[k]? = some v → ∃ u, v = .sc u := by
          intro k v hk
          have := List.all_eq_true.1 hxsc v (List.mem_of_getElem? hk)
          cases v <;> simp [V.isSc] at this
          exact ⟨_, rfl⟩
        obtain ⟨r', h1, _, h3⟩ := low_get (fun k v hk => by obtain ⟨u, rfl⟩ := hxk k v hk; exact .inl rfl) hset
          (fun r o k l sz rows _ hk => by obtain ⟨u, hu⟩ := hxk k _ hk; simp at hu) hget
        refine ⟨r', h1, by simp, ?_⟩
        have hturn : ∀ b2 o2 v, w.cell? ⟨b2, o2, none⟩ = some v → isSca v = false → (putCells w b o cX).cell? ⟨b2, o2, none⟩ = some v := by
          intro b2 o2 v hc hv
          by_cases hbb : b2 = b
          · subst hbb
            by_cases hin : o ≤ o2 ∧ o2 < o + cX.length
            · exfalso
              obtain ⟨c, hc2⟩ : ∃ c, cS[o2 - o]? = some c := ⟨cS[o2 - o]'(by omega), by simp⟩
              have := hcS _ c hc2
              rw [show o + (o2 - o) = o2 from by omega, hc] at this
              have h2 := hsca hbp _ c hc2
              rw [← Option.some.inj this, hv] at h2; simp at h2
            · rw [putCells_far cX w b2 o hcl (by omega)]; exact hc
          · rw [cell_same (putCells_other cX w b o hbb)]; exact hc
        have htopv : ∀ off' v, topVal w β tm p'.r off' = some v → isSca v = false → topVal (putCells w b o cX) β tm p'.r off' = some v := by
          intro off' v hv hs
          unfold topVal at hv ⊢
          split
          · rename_i hbx
            rw [if_pos hbx] at hv
            split at hv
            · exact hturn _ _ _ hv hs
            · simp at hv
          · rename_i hbx; rw [if_neg hbx] at hv; exact hv
        have hpl : s.place p' = some (r', x.2) := place_mk (t := t) (row := row) (by rw [hr, hg, hver, hbp]; rfl) ht h1
        obtain ⟨cs2, f2, n1, n2, n3, n4⟩ := hI.seg hpl
        have haddr : p'.path ≠ [] → plAddr (putCells w b o cX) β tm p' = plAddr w β tm p' := by
          intro hne
          obtain ⟨b2, base2, _, n6, _⟩ := n4 hne
          have h0 := n6 0
          obtain ⟨r2, off2, path2, ver2⟩ := p'
          cases path2 with
          | nil => exact absurd rfl hne
          | cons st q =>
            obtain ⟨t3, row3, e1, e2, e3⟩ := place_some hpl
            obtain ⟨cs3, f3, l1, l2, _⟩ := hI.row e1 e2
            obtain ⟨hv3, b3, base3, cs4, fp4, rest4, u1, u2, _⟩ := getRow_rep l1 e3
            have htop : topVal w β tm r2 off2 = some hv3 := by
              have : ∃ x, row3[off2]? = some x ∧ x ≠ .dead := by
                obtain ⟨i, sz, o1⟩ := st
                simp only [getRow] at e3
                split at e3
                · rename_i heq; exact ⟨_, heq, by simp⟩
                · simp at e3
              obtain ⟨x, hx, hd⟩ := this
              have := l2 off2 x hx hd
              rw [u1] at this; exact this
            have hns : isSca hv3 = false := by
              cases q with
              | nil => cases hv3 <;> simp [follow, stepA] at u2 <;> rfl
              | cons st3 q3 => cases hv3 <;> simp [follow, stepA] at u2 <;> rfl
            simp only [plAddr, htop, htopv off2 hv3 htop hns]
            rw [u2]; exact follow_sca hturn u2
        refine ⟨fun l sz rows hc => ⟨h3 _ l sz rows hc, ?_⟩, haddr⟩
        obtain ⟨l', rows', hc', _⟩ := h3 _ l sz rows hc
        have hv := n3 0 _ (by rw [Nat.add_zero]; exact hc') (by simp)
        obtain ⟨c1, c, c2, f1, gg, f2, w1, w2', w3, w4, _⟩ := n1.at hc'
        have hcs : cs2[x.2 + 0]? = some c := by rw [w1, ← w3]; simp
        have hcsl : isSca c = false := by
          simp only [Rep] at w4; obtain ⟨a, len, cap, _, _, e, _⟩ := w4; rw [e]; rfl
        obtain ⟨r2, off2, path2, ver2⟩ := p'
        cases path2 with
        | nil =>
          simp only [shift, plVal, Nat.add_zero] at hv ⊢
          rw [Nat.add_zero] at hcs
          rw [hv, hcs]
          exact htopv off2 c (by rw [hv]; exact hcs) hcsl
        | cons st q =>
          have ha := haddr (by simp)
          obtain ⟨st', q', e⟩ := shiftPath_cons st q 0
          have hv' : plVal w β tm ⟨r2, off2, st :: q, ver2⟩ = some c := by
            have hsh : shift (⟨r2, off2, st :: q, ver2⟩ : Pl) 0 = ⟨r2, off2, st :: q, ver2⟩ := by
              simp only [shift]
              have : ∀ (q : List (Nat × Nat × Nat)), shiftPath q 0 = q := by
                intro q
                induction q with
                | nil => rfl
                | cons a q ih => cases q with
                  | nil => rfl
                  | cons b q => simp only [shiftPath] at ih ⊢; rw [ih]
              rw [this]
            rw [hsh, hcs] at hv; exact hv
          rw [hv']
          simp only [plVal] at hv' ⊢
          rw [ha]
          split at hv'
          · rename_i b2 o2 hab
            exact hturn _ _ _ hv' hcsl
          · simp at hv'
  cases path with
  | nil =>
    have hbx := hmem rfl
    simp only [setRow] at hset
    split at hset
    case isFalse => simp at hset
    rename_i hfit
    obtain rfl := Option.some.inj hset
    obtain ⟨cA, cS, cB, fA, fS, fB, m1, m2, m3, m4, m5, m6, m7⟩ := splice_split k1 hfit
    rcases k3 with ⟨_, b, h3, h4, h5, h6, h7, h8⟩ | ⟨hbx', _⟩
    case inr => rw [hbx] at hbx'; simp at hbx'
    simp only at h3 h5 hbx
    have hcl : Clean w b (off + xs.length) := by
      obtain ⟨c, e, e1, e2⟩ := h7
      exact ⟨c, e, e1, by rw [k1.len] at e2; omega⟩
    have hatS : RowAt w b off cS := by
      rw [m1, RowAt.append, RowAt.append, m3, Nat.zero_add] at h6; exact h6.1.2
    refine ⟨b, off, ?_, hcl, by rw [h5]; simp, ?_, b :: (fA ++ fX ++ fB), main b off cS fS _ (by rw [h5]; simp) hatS m4 hcl ?_ ?_ ?_ ?_, ?_⟩
    · simp only [plAddr]; rw [if_pos hbx, h3]; rfl
    · intro k hk
      rw [hatS k (cS[k]'(by omega)) (by simp)]; rfl
    · intro hbp k c hk
      have := (hbump hbp).2 row off rfl
      exact (m6.sca this).2 k c hk
    · intro x hx
      rw [h5, m2]
      simp only [List.mem_cons, List.mem_append] at hx ⊢
      grind
    · have hn := hI.nodup r
      simp only [h5, m2] at hn
      have hbX : b ∉ fX := fun hb => hXd r b hb (by rw [h5]; simp)
      have hXg : ∀ x ∈ fX, x ∉ fA ++ fS ++ fB := fun x hx h => hXd r x hx (by rw [h5, m2]; exact List.mem_cons_of_mem _ h)
      grind
    · intro hst
      have hbn : b ∉ fA ++ fS ++ fB := by
        have hn := hI.nodup r; rw [h5, m2] at hn; exact (List.nodup_cons.1 hn).1
      rw [if_pos hbx]
      refine ⟨b, cA ++ cX ++ cB, fA ++ fX ++ fB, h3, rfl, ?_, ?_, ?_, by rw [putCells_size]; exact h8⟩
      · simp only [splice]
        exact RepRow.append (RepRow.append (m5.frame hst (fun _ _ h => h) _ _ _ fun x hx => putCells_other _ _ _ _ (fun e => hbn (by simp [← e, hx])))
          (hX.frame hst (fun _ _ h => h) _ _ _ fun x hx => putCells_other _ _ _ _ (fun e => hXd r x hx (by rw [e, h5]; simp))))
          (m7.frame hst (fun _ _ h => h) _ _ _ fun x hx => putCells_other _ _ _ _ (fun e => hbn (by simp [← e, hx])))
      · rw [m1, RowAt.append, RowAt.append] at h6
        rw [RowAt.append, RowAt.append]
        refine ⟨⟨fun j v hj => ?_, ?_⟩, fun j v hj => ?_⟩
        · have := (List.getElem?_eq_some_iff.1 hj).1
          rw [putCells_far cX w b off h7 (.inl (by omega))]; exact h6.1.1 j v hj
        · rw [m3, Nat.zero_add]; exact putCells_at cX w b off hcl (by omega)
        · rw [putCells_far cX w b off h7 (.inr (by simp only [List.length_append]; omega))]
          have := h6.2 j v hj
          simp only [List.length_append] at this ⊢; rw [hXl, ← m4]; exact this
      · have hl2 : (cA ++ cX ++ cB).length = cs.length := by rw [m1]; simp only [List.length_append]; omega
        rw [hl2]; exact putCells_clean _ _ _ _ h7
    · intro x hx
      rw [h5, m2]
      simp only [List.mem_cons, List.mem_append] at hx ⊢
      grind
  | cons st q =>
    obtain ⟨hv, b, base, row', o, cA, cS, cB, fA, fS, fB, rest, m1, m2, m3, m3', m4, m5, m6, m7, m8, m9, m10, m11⟩ := setRow_rep (hxp (by simp)) k1 hset
    have hfg : ∀ x ∈ f, x ∈ g r := by
      rcases k3 with ⟨_, b, _, _, h5, _⟩ | ⟨_, h5, _⟩
      · intro x hx; simp only at h5; rw [h5]; exact List.mem_cons_of_mem _ hx
      · intro x hx; simp only at h5; rw [h5]; exact hx
    have hfnd : f.Nodup := by
      have hn := hI.nodup r
      rcases k3 with ⟨_, b, _, _, h5, _⟩ | ⟨_, h5, _⟩
      · simp only at h5; rw [h5] at hn; exact (List.nodup_cons.1 hn).2
      · simp only at h5; rw [h5] at hn; exact hn
    have hpn := Nodup.of_perm m10 hfnd
    have hbf : b ∈ f := m10.mem_iff.2 (by simp)
    have hbn : b ∉ fA ++ fS ++ fB ++ rest := (List.nodup_cons.1 hpn).1
    have hatS : RowAt w b (base + o) cS := by
      rw [RowAt.append, RowAt.append, m6] at m5; exact m5.1.2
    have hcl : Clean w b (base + o + xs.length) := by
      obtain ⟨c, e, e1, e2⟩ := m8
      exact ⟨c, e, e1, by simp only [List.length_append] at e2; omega⟩
    have htop : topVal w β tm r off = some hv := by
      have : ∃ x, row[off]? = some x ∧ x ≠ .dead := by
        obtain ⟨i, sz, o1⟩ := st
        simp only [getRow] at m3
        split at m3
        · rename_i heq; exact ⟨_, heq, by simp⟩
        · simp at m3
      obtain ⟨x, hx, hd⟩ := this
      rw [k2 off x hx hd, m1]
    have hXf : ∀ x ∈ fX, x ∉ f := fun x hx h => hXd r x hx (hfg x h)
    have hnew : Stp E w E (putCells w b (base + o) cX) → ∃ fp2, RepRow E (putCells w b (base + o) cX) β row2 cs fp2 ∧ fp2.Perm (b :: (fA ++ fX ++ fB ++ rest)) := by
      intro hst
      refine m11 E _ β cX fX hst (fun _ _ h => h) (hX.frame hst (fun _ _ h => h) _ _ _ fun x hx => putCells_other _ _ _ _ (fun e => hXf x hx (e ▸ hbf)))
        (fun x hx => putCells_other _ _ _ _ (fun e => hbn (by subst e; simp only [List.mem_append] at hx ⊢; grind))) (putCells_at cX w b _ hcl (by omega))
        (fun j hj => putCells_far cX w b _ hcl (by omega)) (fun n hn => putCells_clean _ _ _ _ hn)
    have hst0 : Stp E w E (putCells w b (base + o) cX) := by
      have hbo := hI.own r b (hfg b hbf)
      exact ⟨Nat.le_of_eq (putCells_size cX w b _).symm, fun x hx hn => ⟨putCells_other cX w b _ (fun e => hn (e ▸ hbo.1)), hn⟩, fun x hx hn => putCells_other cX w b _ (fun e => hn (e ▸ hbo.2.1)), fun _ _ => rfl, rfl⟩
    obtain ⟨fp2, n1, n2⟩ := hnew hst0
    have hnd2 : fp2.Nodup := by
      refine n2.nodup_iff.2 ?_
      have hXf2 : ∀ x ∈ fX, x ∉ b :: (fA ++ fS ++ fB ++ rest) := fun x hx h => hXf x hx (m10.mem_iff.2 h)
      rw [List.nodup_iff_count] at hpn hXn ⊢
      intro x
      have h1 := hpn x; have h2 := hXn x
      have h3 : 0 < fX.count x → (b :: (fA ++ fS ++ fB ++ rest)).count x = 0 := fun h => List.count_eq_zero.2 (hXf2 x (List.count_pos_iff.1 h))
      simp only [List.count_cons, List.count_append] at h1 h3 ⊢
      omega
    have hsub2 : ∀ x ∈ fp2, x ∈ f ∨ x ∈ fX := by
      intro x hx
      have := n2.mem_iff.1 hx
      simp only [List.mem_cons, List.mem_append] at this
      rcases this with h | ((h | h) | h) | h
      · exact .inl (h ▸ hbf)
      · exact .inl (m10.mem_iff.2 (by simp [h]))
      · exact .inr h
      · exact .inl (m10.mem_iff.2 (by simp [h]))
      · exact .inl (m10.mem_iff.2 (by simp [h]))
    have hplus : plAddr w β tm ⟨r, off, st :: q, ver⟩ = some (b, base + o) := by simp only [plAddr, htop]; exact m2
    have hcells : ∀ k, k < xs.length → (w.cell? ⟨b, base + o + k, none⟩).isSome := by
      intro k hk
      rw [hatS k (cS[k]'(by omega)) (by simp)]; rfl
    have hsca2 : bump = false → ∀ (k : Nat) (c : Value), cS[k]? = some c → isSca c = true := fun hbp k c hk => (m4.sca ((hbump hbp).2 row' o m3)).2 k c hk
    rcases k3 with ⟨hbx, b', h3, h4, h5, h6, h7, h8⟩ | ⟨hbx, h5, h6⟩
    · simp only at h3 h5 hbx
      have hb'f : b' ∉ f := by have hn := hI.nodup r; rw [h5] at hn; exact (List.nodup_cons.1 hn).1
      have hbb : b' ≠ b := fun e => hb'f (e ▸ hbf)
      refine ⟨b, base + o, hplus, hcl, hfg b hbf, hcells, b' :: fp2, main b (base + o) cS fS _ (hfg b hbf) hatS m7 hcl hsca2 ?_ ?_ ?_, ?_⟩
      · intro x hx
        rcases List.mem_cons.1 hx with h | h
        · exact .inl (by rw [h5, h]; simp)
        · exact (hsub2 x h).imp (hfg x) id
      · refine List.nodup_cons.2 ⟨fun h => ?_, hnd2⟩
        rcases hsub2 b' h with h | h
        · exact hb'f h
        · exact hXd r b' h (by rw [h5]; simp)
      · intro _
        rw [if_pos hbx]
        have hsm := putCells_other cX w b (base + o) hbb
        exact ⟨b', cs, fp2, h3, rfl, n1, h6.same hsm, h7.same hsm, by rw [putCells_size]; exact h8⟩
      · intro x hx
        rcases List.mem_cons.1 hx with h | h
        · exact .inl (by rw [h5, h]; simp)
        · exact (hsub2 x h).imp (hfg x) id
    · simp only at h5 hbx
      refine ⟨b, base + o, hplus, hcl, hfg b hbf, hcells, fp2, main b (base + o) cS fS _ (hfg b hbf) hatS m7 hcl hsca2 (fun x hx => (hsub2 x hx).imp (hfg x) id) hnd2 ?_, fun x hx => (hsub2 x hx).imp (hfg x) id⟩
      intro _
      rw [if_neg (by rw [hbx]; simp)]
      rcases h6 with ⟨v, h6, h7, h8⟩ | ⟨h6, a, h7, h8⟩
      · left
        obtain ⟨x, hx1⟩ : ∃ x, row2 = [x] := List.length_eq_one_iff.1 (by rw [hlen, h6]; rfl)
        refine ⟨x, hx1, ⟨v, h7⟩, ?_⟩
        rw [hx1, h8] at n1
        simp only [RepRow] at n1
        obtain ⟨c, cs', f1, f2, e1, e2, e3, rfl, rfl⟩ := n1
        simp only [List.cons.injEq] at e1
        rw [e2, e1.1, List.append_nil]; exact e3
      · right; exact ⟨⟨_, h6⟩, a, h7, by rw [← h8]; exact n1⟩
end
end Pv

namespace Pv
open Go
def pushObj (w : World) (cs : Array Value) (e : TypeId) : World := { w with heap := w.heap.push (.cells cs e (0, 0)) }
def Env.plus (E : Env) (b : Nat) : Env := { E with own := fun x => E.own x ∨ x = b }
theorem push_wf (w : World) (cs : Array Value) (e : TypeId) : Wf w (pushObj w cs e) := ⟨rfl, rfl⟩
theorem push_same (w : World) (cs : Array Value) (e : TypeId) {b : Nat} (h : b < w.heap.size) : (pushObj w cs e).heap[b]? = w.heap[b]? := by
  simp only [pushObj]; rw [Array.getElem?_push, if_neg (by omega)]
theorem push_here (w : World) (cs : Array Value) (e : TypeId) : (pushObj w cs e).heap[w.heap.size]? = some (.cells cs e (0, 0)) := by
  simp only [pushObj]; rw [Array.getElem?_push, if_pos rfl]
theorem push_size (w : World) (cs : Array Value) (e : TypeId) : (pushObj w cs e).heap.size = w.heap.size + 1 := by simp [pushObj]
theorem push_clean (w : World) (cs : Array Value) (e : TypeId) {n : Nat} (h : n ≤ cs.size) : Clean (pushObj w cs e) w.heap.size n := ⟨cs, e, push_here w cs e, h⟩
theorem push_row (w : World) (cs : Array Value) (e : TypeId) {c : List Value} {rest : List Value} (h : cs.toList = c ++ rest) : RowAt (pushObj w cs e) w.heap.size 0 c := by
  intro j v hj
  simp only [World.cell?, push_here, Nat.zero_add]
  have : cs.toList[j]? = some v := by rw [h, List.getElem?_append_left (List.getElem?_eq_some_iff.1 hj).1]; exact hj
  simpa using this
theorem Stp.push (E : Env) (w : World) (cs : Array Value) (e : TypeId) : Stp E w (E.plus w.heap.size) (pushObj w cs e) :=
  ⟨by rw [push_size]; omega, fun b hb hn => ⟨push_same w cs e hb, fun h => h.elim hn (fun h => by omega)⟩, fun b hb _ => push_same w cs e hb, fun _ _ => rfl, rfl⟩
section
variable {E E2 : Env} {w w2 : World} {β β2 : Nat → Option Nat} {s s2 : St} {tm tm2 : Array Value} {g : Nat → List Nat}
theorem Inv.push (hI : Inv E w β s tm g) (cs : Array Value) (e : TypeId) : Inv (E.plus w.heap.size) (pushObj w cs e) β s tm g :=
  hI.world (Stp.push E w cs e) (fun i x hx => push_same w cs e (hI.own i x hx).2.2) (fun i b hb => .inl (hI.own i b hb).1)
    (fun b hb => hI.small b (by rw [push_size] at hb; omega))
theorem Stp.heap {E : Env} {w w2 : World} (h : w2.heap = w.heap) : Stp E w E w2 := ⟨by rw [h]; exact Nat.le_refl _, fun b _ hn => ⟨by rw [h], hn⟩, fun b _ _ => by rw [h], fun _ _ => rfl, rfl⟩
theorem Inv.heap (hI : Inv E w β s tm g) (h : w2.heap = w.heap) : Inv E w2 β s tm g :=
  hI.world (Stp.heap h) (fun _ _ _ => by rw [h]) (fun i b hb => (hI.own i b hb).1) (by rw [h]; exact hI.small)
theorem Inv.addBox (hI : Inv E w β s tm g) {r blk : Nat} (hr : isBox r = true) (hn : s.get r = none) {row : List V} {cs : List Value} {f : List Nat} (hrow : RepRow E w β row cs f)
    (hat : RowAt w blk 0 cs) (hcl : Clean w blk cs.length) (hnd : (blk :: f).Nodup) (ho : ∀ b ∈ blk :: f, E.own b ∧ E.tag b = none ∧ b < w.heap.size) (hd : ∀ i, ∀ b ∈ blk :: f, b ∉ g i) :
    Inv E w (fun i => if i = r then some blk else β i) (s.set r (.agg row, 0)) tm (fun i => if i = r then blk :: f else g i) := by
  have hβ : β r = none := by
    cases h : β r with
    | none => rfl
    | some b => have := (hI.box r b h).2; rw [hn] at this; simp at this
  have hb : ∀ i b, β i = some b → (if i = r then some blk else β i) = some b := by
    intro i b h
    rw [if_neg (fun e => by rw [e, hβ] at h; simp at h)]; exact h
  have hne : ∀ p, AlOk s p → r ≠ p.r := by
    rintro p ⟨_, t', v', h, _⟩ rfl; rw [hn] at h; simp at h
  have stepT : ∀ t' cv' fp, TOk E w β s tm t' cv' fp → TOk E w (fun i => if i = r then some blk else β i) (s.set r (.agg row, 0)) tm t' cv' fp := by
    intro t' cv' fp h
    refine TOk.step (Stp.refl E w) hb ?_ ?_ ?_ t' cv' fp (fun _ _ => rfl) h
    · rintro p hal
      obtain ⟨h1, t', v', h2, h3⟩ := hal
      exact ⟨h1, t', v', by rw [get_set_ne _ _ (hne p ⟨h1, t', v', h2, h3⟩)]; exact h2, h3⟩
    · intro p l sz rows hal hc
      have hg : (s.set r (.agg row, 0)).get p.r = s.get p.r := get_set_ne _ _ (hne p hal)
      rw [cell_congr hg] at hc
      obtain ⟨r1, o1, hp, _⟩ := cell_place hc
      exact ⟨⟨l, rows, hc, rfl⟩, (hI.val_same hb hp (fun _ _ => rfl) (fun _ => rfl)).1⟩
    · intro p hal _ hp
      have hg : (s.set r (.agg row, 0)).get p.r = s.get p.r := get_set_ne _ _ (hne p hal)
      rw [place_congr hg] at hp
      obtain ⟨x, hp'⟩ := Option.isSome_iff_exists.1 hp
      exact ⟨hp, (hI.val_same hb hp' (fun _ _ => rfl) (fun _ => rfl)).2⟩
  refine ⟨?_, ?_, ?_, ?_, ?_, ?_, hI.small⟩
  · intro j t' v' hg
    rw [get_set] at hg
    by_cases hj : r = j
    · subst hj
      rw [if_pos rfl] at hg
      simp only [Option.some.injEq, Prod.mk.injEq] at hg
      obtain ⟨rfl, _⟩ := hg
      unfold RootOk
      rw [if_pos hr]
      refine ⟨blk, cs, f, row, by simp, rfl, by simp, hrow.frame (Stp.refl E w) hb _ _ _ (fun _ _ => rfl), hat, hcl, (ho blk (by simp)).2.2⟩
    · rw [if_neg hj] at hg
      have hji : ¬ j = r := fun e => hj e.symm
      have h := hI.roots j t' v' hg
      unfold RootOk at h ⊢
      rw [if_neg hji]
      split
      · rename_i hbx; rw [if_pos hbx] at h
        obtain ⟨b, cs', f', row', h1, h2, h3, h4, h5⟩ := h
        exact ⟨b, cs', f', row', hb _ _ h1, h2, h3, h4.frame (Stp.refl E w) hb _ _ _ (fun _ _ => rfl), h5⟩
      · rename_i hbx; rw [if_neg hbx] at h; exact stepT _ _ _ h
  · intro j hg
    rw [get_set] at hg
    by_cases hj : r = j
    · rw [if_pos hj] at hg; simp at hg
    · rw [if_neg hj] at hg
      rw [if_neg (fun e => hj e.symm)]; exact hI.absent j hg
  · intro j b hb
    split at hb
    · exact ho b hb
    · exact hI.own j b hb
  · intro j
    split
    · exact hnd
    · exact hI.nodup j
  · intro j k hjk b hb hb2
    split at hb
    · rw [if_neg (by omega)] at hb2
      exact hd k b hb hb2
    · split at hb2
      · exact hd j b hb2 hb
      · exact hI.disj j k hjk b hb hb2
  · intro j b h
    by_cases hj : r = j
    · exact ⟨.inl (hj ▸ hr), by rw [get_set, if_pos hj]; rfl⟩
    · rw [if_neg (fun e => hj e.symm)] at h
      exact (hI.box j b h).congr (by rw [get_set, if_neg hj])
theorem RepP.beta (v : V) (x : Value) (h : ∀ r ∈ ptrsV v, β2 r = β r) : RepP β v x → RepP β2 v x := by
  cases v <;> simp only [RepP, imp_self]
  · rintro ⟨b, h1, h2⟩
    exact ⟨b, by rw [h _ (by simp [ptrsV])]; exact h1, h2⟩
  · rintro ⟨b, h1, h2⟩
    exact ⟨b, by rw [h _ (by simp [ptrsV])]; exact h1, h2⟩
theorem RepPs.beta : ∀ (v : List V) (x : List Value), (∀ r ∈ v.flatMap ptrs1, β2 r = β r) → RepPs β v x → RepPs β2 v x
  | [], _, _, h => h
  | a :: v, _, hb, ⟨x, vs, h1, h2, h3⟩ => by
    refine ⟨x, vs, h1, ?_, RepPs.beta v vs (fun r hr => hb r (by simp only [List.flatMap_cons, List.mem_append]; exact .inr hr)) h3⟩
    cases a <;> simp only [RepP] at h2 ⊢
    · exact h2
    · obtain ⟨b, h4, h5⟩ := h2
      exact ⟨b, by rw [hb _ (by simp [ptrs1])]; exact h4, h5⟩
    · obtain ⟨b, h4, h5⟩ := h2
      exact ⟨b, by rw [hb _ (by simp [ptrs1])]; exact h4, h5⟩
mutual
theorem Rep.beta0 : ∀ (v : V) (cv : Value) (fp : List Nat), v.noPtr = true → Rep E w β v cv fp → Rep E w β2 v cv fp
  | .sc _, _, _, _, h => by simpa [Rep] using h
  | .sl l sz rows, cv, fp, _, h => by
    simp only [Rep] at h ⊢
    obtain ⟨a, len, cap, cs, f, h1, h2, h3, h4, h5, h6⟩ := h
    exact ⟨a, len, cap, cs, f, h1, h2, h3, RepRows.beta0 sz rows cs f h4, h5, h6⟩
  | .ptr _ _, _, _, h, _ => by simp [V.noPtr] at h
  | .clo _ _ _, _, _, h, _ => by simp [V.noPtr] at h
  | .mref _, _, _, h, _ => by simp [V.noPtr] at h
  | .mp .., _, _, _, h => by simp [Rep] at h
  | .dead, _, _, _, h => by simpa [Rep] using h
theorem RepRow.beta0 : ∀ (v : List V) (cs : List Value) (fp : List Nat), v.all V.noPtr = true → RepRow E w β v cs fp → RepRow E w β2 v cs fp
  | [], _, _, _, h => by simpa [RepRow] using h
  | v :: r, cs, fp, hp, h => by
    simp only [RepRow] at h ⊢
    simp only [List.all_cons, Bool.and_eq_true] at hp
    obtain ⟨c, cs', f, f', h1, h2, h3, h4⟩ := h
    exact ⟨c, cs', f, f', h1, h2, Rep.beta0 v c f hp.1 h3, RepRow.beta0 r cs' f' hp.2 h4⟩
theorem RepRows.beta0 (sz : Nat) : ∀ (v : List (List V)) (cs : List Value) (fp : List Nat), RepRows E w β sz v cs fp → RepRows E w β2 sz v cs fp
  | [], _, _, h => by simpa [RepRows] using h
  | v :: r, cs, fp, h => by
    simp only [RepRows] at h ⊢
    obtain ⟨c, cs', f, f', h1, h2, h3, h4, h5, h6⟩ := h
    exact ⟨c, cs', f, f', h1, h2, h3, h4, RepRow.beta0 v c f h4 h5, RepRows.beta0 sz r cs' f' h6⟩
end
theorem Rep.beta (v : V) (cv : Value) (fp : List Nat) (hb : ∀ r ∈ ptrsV v, β2 r = β r) (h : Rep E w β v cv fp) : Rep E w β2 v cv fp := by
  cases v with
  | ptr r o => simp only [Rep] at h ⊢; exact ⟨h.1, RepP.beta _ _ hb h.2⟩
  | mref r => simp only [Rep] at h ⊢; exact ⟨h.1, RepP.beta _ _ hb h.2⟩
  | clo g a b =>
    simp only [Rep] at h ⊢
    obtain ⟨h1, xs, ys, h2, h3, h4⟩ := h
    refine ⟨h1, xs, ys, h2, RepPs.beta _ _ (fun r hr => hb r ?_) h3, RepPs.beta _ _ (fun r hr => hb r ?_) h4⟩
    · simp only [ptrsV, List.flatMap_append, List.mem_append]; exact .inl hr
    · simp only [ptrsV, List.flatMap_append, List.mem_append]; exact .inr hr
  | _ => exact Rep.beta0 _ _ _ rfl h
theorem RepRow.beta : ∀ (v : List V) (cs : List Value) (fp : List Nat), (∀ r ∈ v.flatMap ptrsV, β2 r = β r) → RepRow E w β v cs fp → RepRow E w β2 v cs fp
  | [], _, _, _, h => by simpa [RepRow] using h
  | v :: r, cs, fp, hb, h => by
    simp only [RepRow] at h ⊢
    obtain ⟨c, cs', f, f', h1, h2, h3, h4⟩ := h
    exact ⟨c, cs', f, f', h1, h2, Rep.beta v c f (fun x hx => hb x (by simp only [List.flatMap_cons, List.mem_append]; exact .inl hx)) h3,
      RepRow.beta r cs' f' (fun x hx => hb x (by simp only [List.flatMap_cons, List.mem_append]; exact .inr hx)) h4⟩
theorem RepRow.dead : ∀ (v : List V) (cs : List Value), v.length = cs.length → RepRow E w β (deads v) cs []
  | [], [], _ => by simp [deads, RepRow]
  | _ :: v, c :: cs, h => by
    simp only [deads, List.map_cons, RepRow]
    exact ⟨c, cs, [], [], rfl, rfl, by simp [Rep], RepRow.dead v cs (by simpa using h)⟩
theorem deads_row {row : List V} {off : Nat} {p : List (Nat × Nat × Nat)} {x : List V × Nat} (h : getRow (deads row) off p = some x) : p = [] ∧ x = (deads row, off) := by
  cases p with
  | nil => simp only [getRow, Option.some.injEq] at h; exact ⟨rfl, h.symm⟩
  | cons st q =>
    obtain ⟨i, sz, o⟩ := st
    simp only [getRow] at h
    split at h
    · rename_i heq
      simp only [deads, List.getElem?_map, Option.map_eq_some_iff] at heq
      obtain ⟨_, _, h2⟩ := heq; simp at h2
    · simp at h
theorem deads_get {row : List V} {j : Nat} {v : V} (h : (deads row)[j]? = some v) : v = .dead := by
  simp only [deads, List.getElem?_map, Option.map_eq_some_iff] at h
  obtain ⟨_, _, h2⟩ := h; exact h2.symm
theorem get_keep (s : St) (l : List Nat) (j : Nat) : (s.keep l).get j = if kept l j then (s.get j).map (fun x => (keepT l x.1, x.2)) else none := by
  induction s with
  | nil => simp [St.keep, St.get]
  | cons y s ih =>
    obtain ⟨k, t, v⟩ := y
    simp only [St.keep]
    by_cases hk : kept l k = true
    · rw [if_pos hk]
      simp only [St.get, ih]
      by_cases h : k = j
      · subst h; simp [hk]
      · simp [h]
    · rw [if_neg hk, ih]
      simp only [St.get]
      by_cases h : k = j
      · subst h; simp [hk]
      · simp [h]
theorem Inv.keep (hI : Inv E w β s tm g) (l : List Nat) : ∃ β2 g2, Inv E w β2 (s.keep l) tm g2 ∧ (∀ i, ∀ x ∈ g2 i, x ∈ g i) ∧ (∀ r, ExtR r → β2 r = β r) ∧ (∀ r b, β2 r = some b → β r = some b) := by
  have hrow : ∀ t row2, (keepT l t).row? = some row2 → t.row? = some row2 ∨ ∃ row, row2 = deads row := by
    intro t row2 h
    cases t with
    | one v =>
      simp only [keepT] at h
      split at h
      · exact .inl h
      · right; simp only [T.row?, Option.some.injEq] at h; exact ⟨[v], h.symm⟩
    | agg r =>
      simp only [keepT] at h
      split at h
      · exact .inl h
      · right; simp only [T.row?, Option.some.injEq] at h; exact ⟨r, h.symm⟩
    | al p => simp only [keepT] at h; split at h
              · simp [T.row?] at h
              · right; simp only [T.row?, Option.some.injEq] at h; exact ⟨[.dead], h.symm⟩
    | ala p n => simp only [keepT] at h; split at h
                 · simp [T.row?] at h
                 · right; simp only [T.row?, Option.some.injEq] at h; exact ⟨[.dead], h.symm⟩
    | slb p a b c => simp only [keepT] at h; split at h
                     · simp [T.row?] at h
                     · right; simp only [T.row?, Option.some.injEq] at h; exact ⟨[.dead], h.symm⟩
    | ad p => simp only [keepT] at h; split at h
              · simp [T.row?] at h
              · right; simp only [T.row?, Option.some.injEq] at h; exact ⟨[.dead], h.symm⟩
    | rad r o => simp [keepT, T.row?] at h
    | tup ts => simp [keepT, T.row?] at h
    | mp r ka va ks vs => simp only [keepT] at h; split at h
                          · simp [T.row?] at h
                          · right; simp only [T.row?, Option.some.injEq] at h; exact ⟨[.dead], h.symm⟩
  let β2 : Nat → Option Nat := fun r => if kept l r then β r else none
  have hplace : ∀ p x, (s.keep l).place p = some x → (s.place p = some x ∧ kept l p.r = true) ∨ (p.path = [] ∧ ∃ row, x = (deads row, p.off)) := by
    intro p x hp
    obtain ⟨t, row, h1, h2, h3⟩ := place_some hp
    rw [get_keep] at h1
    split at h1
    case isFalse => simp at h1
    rename_i hk
    simp only [Option.map_eq_some_iff, Prod.mk.injEq] at h1
    obtain ⟨⟨t0, v0⟩, h4, h5, h6⟩ := h1
    simp only at h5 h6
    subst h5 h6
    rcases hrow t0 row h2 with h | ⟨row0, rfl⟩
    · exact .inl ⟨place_mk h4 h h3, hk⟩
    · obtain ⟨e1, e2⟩ := deads_row h3
      exact .inr ⟨e1, row0, e2⟩
  have hal : ∀ p, AlOk s p → kept l p.r = true → AlOk (s.keep l) p := by
    rintro p ⟨h1, t, v, h2, h3⟩ hk
    exact ⟨h1, keepT l t, v, by rw [get_keep, if_pos hk, h2]; rfl, h3⟩
  have hβ2 : ∀ p, kept l p.r = true → plVal w β2 tm p = plVal w β tm p ∧ plAddr w β2 tm p = plAddr w β tm p := by
    intro p hk
    have ht : ∀ off, topVal w β2 tm p.r off = topVal w β tm p.r off := by
      intro off; unfold topVal; simp only [β2, hk, if_true]
    have ha : plAddr w β2 tm p = plAddr w β tm p := by
      unfold plAddr
      split
      · simp only [β2, hk, if_true]
      · rw [ht]
    refine ⟨?_, ha⟩
    unfold plVal
    split
    · exact ht _
    · rw [ha]
  have hsays : ∀ p cv, kept l p.r = true → AlSays w β s tm p cv → AlSays w β2 (s.keep l) tm p cv := by
    intro p cv hk h l' sz rows hc
    obtain ⟨r, o, hp, hcell⟩ := cell_place hc
    rcases hplace p _ hp with ⟨hp', _⟩ | ⟨_, row, hx⟩
    · rw [(hβ2 p hk).1]; exact h l' sz rows (by unfold St.cell; rw [hp']; exact hcell)
    · simp only [Prod.mk.injEq] at hx
      rw [hx.1] at hcell
      exact absurd (deads_get hcell) (by simp)
  have stepT : ∀ t cv fp, TOk E w β s tm t cv fp → ∃ fp2, TOk E w β2 (s.keep l) tm (keepT l t) cv fp2 ∧ (fp2 = fp ∨ fp2 = []) := by
    intro t cv fp h
    have dead : ∃ fp2, TOk E w β2 (s.keep l) tm (.one .dead) cv fp2 ∧ (fp2 = fp ∨ fp2 = []) := ⟨[], by simp [TOk, Rep], .inr rfl⟩
    cases t with
    | one v =>
      simp only [keepT]
      split
      · rename_i hk
        refine ⟨fp, ?_, .inl rfl⟩
        simp only [TOk] at h ⊢
        exact h.beta v cv fp (fun r hr => by simp only [β2]; rw [if_pos (List.all_eq_true.1 hk r hr)])
      · exact dead
    | agg r =>
      simp only [keepT]
      simp only [TOk] at h
      obtain ⟨cs, h1, h2⟩ := h
      split
      · rename_i hk
        refine ⟨fp, ?_, .inl rfl⟩
        simp only [TOk]
        exact ⟨cs, h1, h2.beta r _ fp (fun x hx => by simp only [β2]; rw [if_pos (List.all_eq_true.1 hk x hx)])⟩
      · refine ⟨[], ?_, .inr rfl⟩
        simp only [TOk]
        exact ⟨cs, h1, RepRow.dead r _ h2.len.symm⟩
    | al p =>
      simp only [keepT]
      split
      · rename_i hk
        refine ⟨fp, ?_, .inl rfl⟩
        simp only [TOk] at h ⊢
        exact ⟨h.1, hal p h.2.1 hk, hsays p cv hk h.2.2⟩
      · exact dead
    | ala p snap =>
      simp only [keepT]
      split
      · rename_i hk
        refine ⟨fp, ?_, .inl rfl⟩
        simp only [TOk] at h ⊢
        obtain ⟨h1, h2, cs, h3, h4, h5⟩ := h
        simp only [Bool.and_eq_true] at hk
        refine ⟨h1, hal p h2 hk.1, cs, h3, h4, fun j v c hj hc => ?_⟩
        have := h5 j v c hj hc
        split
        · rename_i hn; rw [if_pos hn] at this
          exact this.beta v c [] (fun r hr => by
            simp only [β2]
            rw [if_pos (List.all_eq_true.1 hk.2 r (List.mem_flatMap.2 ⟨v, List.mem_of_getElem? hj, hr⟩))])
        · rename_i hn; rw [if_neg hn] at this
          exact hsays _ _ (by unfold Pl.at; rw [(shift_r p j).1]; exact hk.1) this
      · exact dead
    | slb p lo hi c =>
      simp only [keepT]
      split
      · rename_i hk
        refine ⟨fp, ?_, .inl rfl⟩
        simp only [TOk] at h ⊢
        obtain ⟨h1, h2, h3⟩ := h
        refine ⟨h1, hal p h2 hk, fun l' sz rows hc => ?_⟩
        obtain ⟨r, o, hp, hcell⟩ := cell_place hc
        rcases hplace p _ hp with ⟨hp', _⟩ | ⟨_, row, hx⟩
        · rw [(hβ2 p hk).1]; exact h3 l' sz rows (by unfold St.cell; rw [hp']; exact hcell)
        · simp only [Prod.mk.injEq] at hx
          rw [hx.1] at hcell
          exact absurd (deads_get hcell) (by simp)
      · exact dead
    | ad p =>
      simp only [keepT]
      split
      · rename_i hk
        refine ⟨fp, ?_, .inl rfl⟩
        simp only [TOk] at h ⊢
        obtain ⟨h1, h2, h3, h4⟩ := h
        refine ⟨h1, hal p h2 hk, h3, fun hp => ?_⟩
        obtain ⟨x, hp'⟩ := Option.isSome_iff_exists.1 hp
        rcases hplace p _ hp' with ⟨hp2, _⟩ | ⟨hx, _⟩
        · rw [(hβ2 p hk).2]; exact h4 (by rw [hp2]; rfl)
        · exact absurd hx h3
      · exact dead
    | rad row off =>
      refine ⟨fp, ?_, .inl rfl⟩
      simp only [keepT, TOk] at h ⊢
      obtain ⟨h1, b, o, cs, h2, h3, h4, h5, h6, h7⟩ := h
      exact ⟨h1, b, o, cs, h2, h3, RepRow.beta0 _ _ _ h7 h4, h5, h6, h7⟩
    | tup ts => exact ⟨fp, by simpa only [keepT, TOk] using h, .inl rfl⟩
    | mp r ka va ks vs =>
      simp only [keepT]
      split
      · rename_i hk
        refine ⟨fp, ?_, .inl rfl⟩
        simp only [TOk] at h ⊢
        obtain ⟨b, es, clk, h1, h2⟩ := h
        exact ⟨b, es, clk, by simp only [β2]; rw [if_pos hk]; exact h1, h2⟩
      · exact dead
  have each : ∀ i, ∃ fp : List Nat, (∀ t v, (s.keep l).get i = some (t, v) → RootOk E w β2 (s.keep l) tm i t fp) ∧ ((s.keep l).get i = none → fp = []) ∧ fp.Sublist (g i) := by
    intro i
    cases hgi : (s.keep l).get i with
    | none => exact ⟨[], by simp, fun _ => rfl, by simp⟩
    | some x =>
      obtain ⟨t, v⟩ := x
      rw [get_keep] at hgi
      split at hgi
      case isFalse => simp at hgi
      rename_i hk
      simp only [Option.map_eq_some_iff, Prod.mk.injEq] at hgi
      obtain ⟨⟨t0, v0⟩, h4, h5, h6⟩ := hgi
      simp only at h5 h6
      subst h5 h6
      have h := hI.roots i t0 v0 h4
      unfold RootOk at h
      by_cases hbx : isBox i = true
      · rw [if_pos hbx] at h
        obtain ⟨b, cs, f, row, h1, rfl, h3, h4', h5, h6, h7⟩ := h
        by_cases hp : (row.flatMap ptrsV).all (kept l) = true
        · refine ⟨g i, fun t v ht => ?_, by simp, List.Sublist.refl _⟩
          simp only [Option.some.injEq, Prod.mk.injEq] at ht
          obtain ⟨rfl, _⟩ := ht
          unfold RootOk
          rw [if_pos hbx]
          refine ⟨b, cs, f, row, by simp only [β2]; rw [if_pos hk]; exact h1, by simp only [keepT]; rw [if_pos hp], h3, h4'.beta row cs f (fun r hr => by simp only [β2]; rw [if_pos (List.all_eq_true.1 hp r hr)]), h5, h6, h7⟩
        · refine ⟨[b], fun t v ht => ?_, by simp, by rw [h3]; simp⟩
          simp only [Option.some.injEq, Prod.mk.injEq] at ht
          obtain ⟨rfl, _⟩ := ht
          unfold RootOk
          rw [if_pos hbx]
          exact ⟨b, cs, [], deads row, by simp only [β2]; rw [if_pos hk]; exact h1, by simp only [keepT]; rw [if_neg hp], rfl, RepRow.dead row cs h4'.len.symm, h5, h6, h7⟩
      · rw [if_neg hbx] at h
        obtain ⟨fp2, h1, h2⟩ := stepT t0 _ _ h
        refine ⟨fp2, fun t v ht => ?_, by simp, ?_⟩
        · simp only [Option.some.injEq, Prod.mk.injEq] at ht
          obtain ⟨rfl, _⟩ := ht
          unfold RootOk
          rw [if_neg hbx]; exact h1
        · rcases h2 with h2 | h2
          · rw [h2]; exact List.Sublist.refl _
          · rw [h2]; simp
  obtain ⟨g2, hg2⟩ := Classical.axiomOfChoice each
  refine ⟨β2, g2, ⟨fun i => (hg2 i).1, fun i => (hg2 i).2.1, fun i b hb => hI.own i b ((hg2 i).2.2.subset hb), fun i => (hI.nodup i).sublist (hg2 i).2.2,
    fun i j hij b hb hb2 => hI.disj i j hij b ((hg2 i).2.2.subset hb) ((hg2 j).2.2.subset hb2), ?_, hI.small⟩, fun i x hx => (hg2 i).2.2.subset hx, ?_, fun r b h => by
      simp only [β2] at h
      split at h
      · exact h
      · simp at h⟩
  · intro i b h
    simp only [β2] at h
    split at h
    case isFalse => simp at h
    rename_i hk
    obtain ⟨h1, h2⟩ := hI.box i b h
    obtain ⟨x, hx⟩ := Option.isSome_iff_exists.1 h2
    refine ⟨?_, by rw [get_keep, if_pos hk, hx]; rfl⟩
    rcases h1 with h1 | ⟨h3, ka, va, ks, vs, v, h4⟩
    · exact .inl h1
    · refine .inr ⟨h3, ka, va, ks, vs, v, ?_⟩
      rw [get_keep, if_pos hk, h4]
      simp only [Option.map_some, keepT, if_pos hk]
  · intro r h
    simp only [β2]
    rw [if_pos]
    unfold kept
    rcases h with h | h
    · rw [if_neg (by omega), if_neg (by omega)]
      simp [h.1]
    · rw [if_pos (by omega)]
      simp [h]
end
end Pv

namespace Pv
open Go
section
variable {E : Env} {w : World} {β : Nat → Option Nat} {s : St} {tm : Array Value} {g : Nat → List Nat}
theorem get_norm (s : St) (j : Nat) : (norm s).get j = (s.get j).map fun x => (normT s x.1, 0) := by
  unfold norm
  generalize normT s = f
  induction s with
  | nil => rfl
  | cons y s ih =>
    obtain ⟨k, t, v⟩ := y
    simp only [List.map_cons, St.get, ih]
    split <;> rfl
theorem normT_row {t : T} {row : List V} (h : (normT s t).row? = some row) : t.row? = some row ∨ row = [.dead] := by
  cases t with
  | one v => exact .inl h
  | agg r => exact .inl h
  | al p => simp only [normT] at h; split at h <;> simp [T.row?] at h; exact .inr h.symm
  | ala p n => simp only [normT] at h; split at h <;> simp [T.row?] at h; exact .inr h.symm
  | slb p a b c => simp only [normT] at h; split at h <;> simp [T.row?] at h; exact .inr h.symm
  | ad p => simp only [normT] at h; split at h <;> simp [T.row?] at h; exact .inr h.symm
  | rad r o => simp [normT, T.row?] at h
  | tup ts => simp only [normT, T.row?, Option.some.injEq] at h; exact .inr h.symm
  | mp r ka va ks vs => simp [normT, T.row?] at h
theorem norm_place {p : Pl} {x : List V × Nat} {t0 : T} (hg : s.get p.r = some (t0, p.ver)) (h : (norm s).place { p with ver := 0 } = some x) :
    s.place p = some x ∨ (p.path = [] ∧ x.1 = [.dead]) := by
  obtain ⟨t, row, h1, h2, h3⟩ := place_some h
  rw [get_norm] at h1
  simp only [Option.map_eq_some_iff, Prod.mk.injEq] at h1
  obtain ⟨⟨t1, v1⟩, h4, h5, _⟩ := h1
  simp only at h5
  subst h5
  rw [hg] at h4
  simp only [Option.some.injEq, Prod.mk.injEq] at h4
  obtain ⟨rfl, rfl⟩ := h4
  rcases normT_row h2 with h | rfl
  · exact .inl (place_mk hg h h3)
  · right
    obtain ⟨e1, e2⟩ := deads_row (row := [.dead]) h3
    exact ⟨e1, by rw [e2]; rfl⟩
theorem shift_ver (p : Pl) (j : Nat) : shift { p with ver := 0 } j = { shift p j with ver := 0 } := by
  obtain ⟨r, off, path, ver⟩ := p
  cases path <;> rfl
theorem plVal_ver (p : Pl) : plVal w β tm { p with ver := 0 } = plVal w β tm p ∧ plAddr w β tm { p with ver := 0 } = plAddr w β tm p := by
  obtain ⟨r, off, path, ver⟩ := p
  cases path <;> exact ⟨rfl, rfl⟩
theorem Inv.norm (hI : Inv E w β s tm g) : Inv E w β (norm s) tm g := by
  have says : ∀ (p : Pl) (cv : Value) (t0 : T), s.get p.r = some (t0, p.ver) → AlSays w β s tm p cv → AlSays w β (Pv.norm s) tm { p with ver := 0 } cv := by
    intro p cv t0 hg h l sz rows hc
    obtain ⟨r, o, hp, hcell⟩ := cell_place hc
    rcases norm_place hg hp with h2 | ⟨_, h2⟩
    · rw [plVal_ver p |>.1]
      exact h l sz rows (by unfold St.cell; rw [h2]; exact hcell)
    · simp only at h2
      subst h2
      exact absurd (deads_get (row := [.dead]) hcell) (by simp)
  have alok : ∀ (p : Pl) (t0 : T), p.r < 30000 → s.get p.r = some (t0, p.ver) → AlOk (Pv.norm s) { p with ver := 0 } := by
    intro p t0 h1 h2
    exact ⟨h1, normT s t0, 0, by simp only; rw [get_norm, h2]; rfl, Nat.le_refl _⟩
  have match_ : ∀ (p : Pl), ((s.get p.r).any fun x => x.2 == p.ver) = true → ∃ t0, s.get p.r = some (t0, p.ver) := by
    intro p h
    cases hg : s.get p.r with
    | none => rw [hg] at h; simp at h
    | some x =>
      obtain ⟨t0, v0⟩ := x
      rw [hg] at h
      simp only [Option.any_some, beq_iff_eq] at h
      exact ⟨t0, by rw [h]⟩
  have stepT : ∀ t cv fp, TOk E w β s tm t cv fp → TOk E w β (Pv.norm s) tm (normT s t) cv fp := by
    intro t cv fp h
    cases t with
    | one v => exact h
    | agg r => exact h
    | al p =>
      by_cases hm : ((s.get p.r).any fun x => x.2 == p.ver) = true
      · rw [show normT s (.al p) = .al { p with ver := 0 } from if_pos hm]
        simp only [TOk] at h ⊢
        obtain ⟨t0, ht0⟩ := match_ p hm
        exact ⟨h.1, alok p t0 h.2.1.1 ht0, says p cv t0 ht0 h.2.2⟩
      · rw [show normT s (.al p) = .one .dead from if_neg hm]
        simp only [TOk, Rep] at h ⊢; exact h.1
    | ala p snap =>
      by_cases hm : ((s.get p.r).any fun x => x.2 == p.ver) = true
      · rw [show normT s (.ala p snap) = .ala { p with ver := 0 } snap from if_pos hm]
        simp only [TOk] at h ⊢
        obtain ⟨h1, h2, cs, h3, h4, h5⟩ := h
        obtain ⟨t0, ht0⟩ := match_ p hm
        refine ⟨h1, alok p t0 h2.1 ht0, cs, h3, h4, fun j v c hj hc => ?_⟩
        have := h5 j v c hj hc
        split
        · rename_i hn; rw [if_pos hn] at this; exact this
        · rename_i hn; rw [if_neg hn] at this
          unfold Pl.at at this ⊢
          rw [shift_ver]
          exact says (shift p j) c t0 (by rw [(shift_r p j).1, (shift_r p j).2]; exact ht0) this
      · rw [show normT s (.ala p snap) = .one .dead from if_neg hm]
        simp only [TOk, Rep] at h ⊢; exact h.1
    | slb p lo hi c =>
      by_cases hm : ((s.get p.r).any fun x => x.2 == p.ver) = true
      · rw [show normT s (.slb p lo hi c) = .slb { p with ver := 0 } lo hi c from if_pos hm]
        simp only [TOk] at h ⊢
        obtain ⟨h1, h2, h3⟩ := h
        obtain ⟨t0, ht0⟩ := match_ p hm
        refine ⟨h1, alok p t0 h2.1 ht0, fun l sz rows hc => ?_⟩
        obtain ⟨r, o, hp, hcell⟩ := cell_place hc
        rcases norm_place ht0 hp with hp2 | ⟨_, hp2⟩
        · rw [(plVal_ver p).1]
          exact h3 l sz rows (by unfold St.cell; rw [hp2]; exact hcell)
        · simp only at hp2
          subst hp2
          exact absurd (deads_get (row := [.dead]) hcell) (by simp)
      · rw [show normT s (.slb p lo hi c) = .one .dead from if_neg hm]
        simp only [TOk, Rep] at h ⊢; exact h.1
    | ad p =>
      by_cases hm : ((s.get p.r).any fun x => x.2 == p.ver) = true
      · rw [show normT s (.ad p) = .ad { p with ver := 0 } from if_pos hm]
        simp only [TOk] at h ⊢
        obtain ⟨h1, h2, h3, h4⟩ := h
        obtain ⟨t0, ht0⟩ := match_ p hm
        refine ⟨h1, alok p t0 h2.1 ht0, h3, fun hp => ?_⟩
        obtain ⟨x, hp'⟩ := Option.isSome_iff_exists.1 hp
        rcases norm_place ht0 hp' with hp2 | ⟨hx, _⟩
        · rw [(plVal_ver p).2]; exact h4 (by rw [hp2]; rfl)
        · exact absurd hx h3
      · rw [show normT s (.ad p) = .one .dead from if_neg hm]
        simp only [TOk, Rep] at h ⊢; exact h.1
    | rad row off => simpa only [normT, TOk] using h
    | tup ts =>
      simp only [normT, TOk, Rep] at h ⊢; exact h.1
    | mp r ka va ks vs => simpa only [normT, TOk] using h
  refine ⟨?_, ?_, hI.own, hI.nodup, hI.disj, ?_, hI.small⟩
  · intro i t v hg
    rw [get_norm] at hg
    simp only [Option.map_eq_some_iff, Prod.mk.injEq] at hg
    obtain ⟨⟨t0, v0⟩, h4, h5, _⟩ := hg
    simp only at h5
    subst h5
    have h := hI.roots i t0 v0 h4
    unfold RootOk at h ⊢
    split
    · rename_i hbx; rw [if_pos hbx] at h
      obtain ⟨b, cs, f, row, h1, rfl, h3⟩ := h
      exact ⟨b, cs, f, row, h1, rfl, h3⟩
    · rename_i hbx; rw [if_neg hbx] at h; exact stepT _ _ _ h
  · intro i hg
    rw [get_norm] at hg
    exact hI.absent i (by simpa using hg)
  · intro i b h
    obtain ⟨h1, h2⟩ := hI.box i b h
    refine ⟨?_, by rw [get_norm]; simpa using h2⟩
    rcases h1 with h1 | ⟨h3, ka, va, ks, vs, v, h4⟩
    · exact .inl h1
    · refine .inr ⟨h3, ka, va, ks, vs, 0, ?_⟩
      rw [get_norm, h4]; rfl
end
end Pv
