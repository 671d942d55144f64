
import Derived.Test.YtkgdfkhhaankkaaPvAH
set_option linter.all false
set_option linter.unusedVariables false
set_option linter.unusedSimpArgs false
namespace Pv
open Go
theorem gI_set {l : List Int} {i p : Nat} {v : Int} : gI (l.set i v) p = if i = p ∧ p < l.length then v else gI l p := getD_set
theorem con_send {k : Nat} {s : Snap} {p q : Nat} {v : Int} (h : Live k s) (hp : p < s.values.length) (hq : q < s.values.length) (hm : Rd s p = false → mks (chA s (p * s.values.length + q)) = 0) :
    E64 (preT (sendF s (p * s.values.length + q) p v)) (preT s) ∧ E64 (recT (sendF s (p * s.values.length + q) p v)) (recT s) := by
  have hl := chan_lt hp hq
  have hvl : (sendF s (p * s.values.length + q) p v).values.length = s.values.length := by simp [sendF]
  have hch : ∀ j, chA (sendF s (p * s.values.length + q) p v) j = if p * s.values.length + q = j ∧ j < s.chans.length then chA s (p * s.values.length + q) ++ [(false, v)] else chA s j := fun j => getD_set
  have hcj : chA (sendF s (p * s.values.length + q) p v) (p * s.values.length + q) = chA s (p * s.values.length + q) ++ [(false, v)] := by rw [hch, if_pos ⟨rfl, by rw [h.wh.ch]; exact hl⟩]
  have hco : ∀ j, j ≠ p * s.values.length + q → chA (sendF s (p * s.values.length + q) p v) j = chA s j := fun j hj => by rw [hch, if_neg (fun x => hj x.1.symm)]
  have hR : ∀ z, Rd (sendF s (p * s.values.length + q) p v) z = Rd s z := fun _ => rfl
  have hvp : gI (sendF s (p * s.values.length + q) p v).values p = IntKind.i64.wrap (gI s.values p - v) := by
    simp only [sendF, gI_set]; rw [if_pos ⟨trivial, hp⟩]; rfl
  have hvo : ∀ z, z ≠ p → gI (sendF s (p * s.values.length + q) p v).values z = gI s.values z := fun z hz => by
    simp only [sendF, gI_set]; rw [if_neg (fun x => hz x.1.symm)]
  obtain ⟨t, ht⟩ := wrapE (gI s.values p - v)
  constructor
  · unfold preT
    rw [hvl, sumN_upd (f := gI (sendF s (p * s.values.length + q) p v).values) (g := gI s.values) (j := p) (fun z _ hz => hvo z hz) hp,
      sumN_upd (f := fun j => allS (chA (sendF s (p * s.values.length + q) p v) j)) (g := fun j => allS (chA s j)) (j := p * s.values.length + q) (fun j _ hj => by rw [hco j hj]) hl]
    simp only [hvp, hcj, allS_app, Bool.false_eq_true, if_false]
    exact ⟨t, by omega⟩
  · unfold recT
    rw [hvl]
    have hsav : ∀ z, z ≠ p → savA (sendF s (p * s.values.length + q) p v) z = savA s z := fun z hz => by
      unfold savA; rw [hR, hvo z hz]; rfl
    have hcon : ∀ j, j ≠ p * s.values.length + q → conA (sendF s (p * s.values.length + q) p v) j = conA s j := fun j hj => by
      unfold conA; rw [hvl, hR, hco j hj]; rfl
    rw [sumN_upd (f := savA (sendF s (p * s.values.length + q) p v)) (g := savA s) (j := p) (fun z _ hz => hsav z hz) hp,
      sumN_upd (f := conA (sendF s (p * s.values.length + q) p v)) (g := conA s) (j := p * s.values.length + q) (fun j _ hj => hcon j hj) hl]
    have e1 : savA (sendF s (p * s.values.length + q) p v) p = if Rd s p = true then gI s.saved p else IntKind.i64.wrap (gI s.values p - v) := by
      unfold savA; rw [hR, hvp]; rfl
    have e2 : conA (sendF s (p * s.values.length + q) p v) (p * s.values.length + q) = totI (rcA s (p * s.values.length + q)) + if Rd s p = true ∧ mks (chA s (p * s.values.length + q)) = 0 then 0 else preS (chA s (p * s.values.length + q)) + (if mks (chA s (p * s.values.length + q)) = 0 then v else 0) := by
      unfold conA; rw [hvl, hR, hcj, idx_div hq, mks_app, preS_app]; rfl
    have e3 : conA s (p * s.values.length + q) = totI (rcA s (p * s.values.length + q)) + if Rd s p = true ∧ mks (chA s (p * s.values.length + q)) = 0 then 0 else preS (chA s (p * s.values.length + q)) := by
      unfold conA; rw [idx_div hq]
    have e4 : savA s p = if Rd s p = true then gI s.saved p else gI s.values p := rfl
    rw [e1, e2, e3, e4]
    by_cases hRp : Rd s p = true
    · rw [if_pos hRp, if_pos hRp]
      by_cases h0 : mks (chA s (p * s.values.length + q)) = 0
      · rw [if_pos ⟨hRp, h0⟩, if_pos ⟨hRp, h0⟩]; exact ⟨0, by omega⟩
      · have hn : ¬ (Rd s p = true ∧ mks (chA s (p * s.values.length + q)) = 0) := fun x => h0 x.2
        rw [if_neg hn, if_neg hn, if_neg h0]; exact ⟨0, by omega⟩
    · have h0 := hm (by simpa using hRp)
      have hn : ¬ (Rd s p = true ∧ mks (chA s (p * s.values.length + q)) = 0) := fun x => hRp x.1
      rw [if_neg hRp, if_neg hRp, if_neg hn, if_neg hn, if_pos h0]
      exact ⟨t, by omega⟩
theorem good_self {s : Snap} (hg : AllGood s) : ∀ j, j < s.values.length * s.values.length → j / s.values.length = j % s.values.length → chA s j = [] := by
  intro j hj he
  have := hg j hj
  unfold Good at this
  simp only [if_pos he] at this
  exact this.1
theorem con_recv {k : Nat} {s : Snap} {p q : Nat} {v : Int} {r : List (Bool × Int)} (h : Live k s) (hp : p < s.values.length) (hq : q < s.values.length) (hpq : p ≠ q) (hg : Good s (p * s.values.length + q)) (hh : chA s (p * s.values.length + q) = (false, v) :: r) :
    E64 (preT (recvF (putC s (p * s.values.length + q) r) (p * s.values.length + q) q v)) (preT s) ∧ E64 (recT (recvF (putC s (p * s.values.length + q) r) (p * s.values.length + q) q v)) (recT s) := by
  have hl := chan_lt hp hq
  generalize hu : recvF (putC s (p * s.values.length + q) r) (p * s.values.length + q) q v = u
  have hvl : u.values.length = s.values.length := by rw [← hu]; simp [recvF, putC]
  have hch : ∀ j, chA u j = if p * s.values.length + q = j ∧ j < s.chans.length then r else chA s j := fun j => by rw [← hu]; exact getD_set
  have hcj : chA u (p * s.values.length + q) = r := by rw [hch, if_pos ⟨rfl, by rw [h.wh.ch]; exact hl⟩]
  have hco : ∀ j, j ≠ p * s.values.length + q → chA u j = chA s j := fun j hj => by rw [hch, if_neg (fun x => hj x.1.symm)]
  have hR : ∀ z, Rd u z = Rd s z := fun _ => by rw [← hu]; rfl
  have hsv : u.saved = s.saved := by rw [← hu]; rfl
  have hvq : gI u.values q = IntKind.i64.wrap (gI s.values q + v) := by
    rw [← hu]; simp only [recvF, putC, gI_set]; rw [if_pos ⟨trivial, hq⟩]; rfl
  have hvo : ∀ z, z ≠ q → gI u.values z = gI s.values z := fun z hz => by
    rw [← hu]; simp only [recvF, putC, gI_set]; rw [if_neg (fun x => hz x.1.symm)]
  have hrec : u.record = if s.opn[p * s.values.length + q]? = some true then s.record.set (p * s.values.length + q) (s.record[p * s.values.length + q]?.getD [] ++ [v]) else s.record := by rw [← hu]; rfl
  have hrc : ∀ j, rcA u j = if opA s (p * s.values.length + q) = true ∧ p * s.values.length + q = j ∧ j < s.record.length then rcA s (p * s.values.length + q) ++ [v] else rcA s j := fun j => by
    unfold rcA opA
    rw [hrec]
    by_cases ho : s.opn[p * s.values.length + q]? = some true
    · rw [if_pos ho, getD_set, ho]; simp
    · rw [if_neg ho, if_neg]
      rintro ⟨x, _⟩
      cases hc : s.opn[p * s.values.length + q]? with
      | none => simp [hc] at x
      | some b => simp [hc] at x; rw [hc, x] at ho; exact ho rfl
  obtain ⟨t, ht⟩ := wrapE (gI s.values q + v)
  constructor
  · unfold preT
    rw [hvl, sumN_upd (f := gI u.values) (g := gI s.values) (j := q) (fun z _ hz => hvo z hz) hq,
      sumN_upd (f := fun j => allS (chA u j)) (g := fun j => allS (chA s j)) (j := p * s.values.length + q) (fun j _ hj => by rw [hco j hj]) hl]
    simp only [hvq, hcj, hh, allS, Bool.false_eq_true, if_false]
    exact ⟨t, by omega⟩
  · unfold recT
    rw [hvl]
    have hsav : ∀ z, z ≠ q → savA u z = savA s z := fun z hz => by
      unfold savA; rw [hR, hvo z hz, hsv]
    have hcon : ∀ j, j ≠ p * s.values.length + q → conA u j = conA s j := fun j hj => by
      unfold conA; rw [hvl, hR, hco j hj, hrc, if_neg (fun x => hj x.2.1.symm)]
    rw [sumN_upd (f := savA u) (g := savA s) (j := q) (fun z _ hz => hsav z hz) hq,
      sumN_upd (f := conA u) (g := conA s) (j := p * s.values.length + q) (fun j _ hj => hcon j hj) hl]
    have e1 : savA u q = if Rd s q = true then gI s.saved q else IntKind.i64.wrap (gI s.values q + v) := by
      unfold savA; rw [hR, hvq, hsv]
    have e2 : conA u (p * s.values.length + q) = (totI (rcA s (p * s.values.length + q)) + if opA s (p * s.values.length + q) = true then v else 0) + if Rd s p = true ∧ mks r = 0 then 0 else preS r := by
      unfold conA; rw [hvl, hR, hcj, idx_div hq, hrc]
      by_cases ho : opA s (p * s.values.length + q) = true
      · rw [if_pos ⟨ho, rfl, by rw [h.wh.re]; exact hl⟩, if_pos ho, totI_app]
      · rw [if_neg (fun x => ho x.1), if_neg ho]; omega
    have e3 : conA s (p * s.values.length + q) = totI (rcA s (p * s.values.length + q)) + if Rd s p = true ∧ mks r = 0 then 0 else v + preS r := by
      unfold conA; rw [idx_div hq, hh]
      simp [mks, preS]
    have e4 : savA s q = if Rd s q = true then gI s.saved q else gI s.values q := rfl
    unfold Good at hg
    simp only [idx_div hq, idx_mod hq, if_neg hpq, hh, mks, Bool.false_eq_true, if_false, Nat.zero_add] at hg
    rw [e1, e2, e3, e4]
    by_cases hRp : Rd s p = true
    · rw [if_pos hRp] at hg
      rcases hg with ⟨hm, ho⟩ | ⟨hm, hRq, ho⟩
      · have hn : ¬ (Rd s p = true ∧ mks r = 0) := fun x => by omega
        rw [ho, if_neg hn, if_neg hn]
        by_cases hRq : Rd s q = true
        · rw [if_pos hRq, if_pos hRq, if_pos hRq]; exact ⟨0, by omega⟩
        · rw [if_neg hRq, if_neg hRq, if_neg hRq]; exact ⟨t, by omega⟩
      · have hn : Rd s p = true ∧ mks r = 0 := ⟨hRp, hm⟩
        simp only [ho, if_pos hn, if_pos hRq, Bool.false_eq_true, if_false]; exact ⟨0, by omega⟩
    · rw [if_neg hRp] at hg
      have hn : ¬ (Rd s p = true ∧ mks r = 0) := fun x => hRp x.1
      rw [hg.2, if_neg hn, if_neg hn]
      by_cases hRq : Rd s q = true
      · rw [if_pos hRq, if_pos hRq, if_pos hRq]; exact ⟨0, by omega⟩
      · rw [if_neg hRq, if_neg hRq, if_neg hRq]; exact ⟨t, by omega⟩
theorem con_putM {k : Nat} {s : Snap} {p q : Nat} {x : Int} {r : List (Bool × Int)} (h : Live k s) (hp : p < s.values.length) (hq : q < s.values.length) (hRp : Rd s p = true) (hr : mks r = 0) (hh : chA s (p * s.values.length + q) = (true, x) :: r) :
    preT (putC s (p * s.values.length + q) r) = preT s ∧ recT (putC s (p * s.values.length + q) r) = recT s := by
  have hl := chan_lt hp hq
  generalize hu : putC s (p * s.values.length + q) r = u
  have hvl : u.values = s.values := by rw [← hu]; rfl
  have hch : ∀ j, chA u j = if p * s.values.length + q = j ∧ j < s.chans.length then r else chA s j := fun j => by rw [← hu]; exact getD_set
  have hcj : chA u (p * s.values.length + q) = r := by rw [hch, if_pos ⟨rfl, by rw [h.wh.ch]; exact hl⟩]
  have hco : ∀ j, j ≠ p * s.values.length + q → chA u j = chA s j := fun j hj => by rw [hch, if_neg (fun x => hj x.1.symm)]
  have hR : ∀ z, Rd u z = Rd s z := fun _ => by rw [← hu]; rfl
  have hsv : u.saved = s.saved := by rw [← hu]; rfl
  have hrc : ∀ j, rcA u j = rcA s j := fun j => by rw [← hu]; rfl
  constructor
  · unfold preT
    rw [hvl]
    congr 1
    refine sumN_congr fun j _ => ?_
    by_cases e : j = p * s.values.length + q
    · rw [e, hcj, hh]; simp [allS]
    · rw [hco j e]
  · unfold recT
    rw [hvl]
    congr 1
    · refine sumN_congr fun z _ => ?_
      unfold savA; rw [hR, hvl, hsv]
    · refine sumN_congr fun j _ => ?_
      unfold conA
      rw [hvl, hR, hrc]
      by_cases e : j = p * s.values.length + q
      · rw [e, hcj, hh, idx_div hq, if_pos ⟨hRp, hr⟩]; simp [mks, preS]
      · rw [hco j e]
theorem con_step {k : Nat} {s : Snap} (h : Live k s) (hg : AllGood s) (m : Mv) (h0 : (stepF s m).2 = 0) : E64 (preT (stepF s m).1) (preT s) ∧ E64 (recT (stepF s m).1) (recT s) := by
  unfold stepF at h0 ⊢
  split
  · rename_i h3; rw [if_pos h3] at h0
    split
    · rename_i hf
      obtain ⟨a, b⟩ := pre_mark h (good_self hg) (p := m.fr.toNat) (by omega)
      simp only
      rw [a, b]; exact ⟨.refl _, .refl _⟩
    · rename_i hf; rw [if_neg hf] at h0; simp at h0
  · rename_i h3; rw [if_neg h3] at h0
    split
    case isFalse => rename_i h12; rw [if_neg h12] at h0; simp at h0
    rename_i h12; rw [if_pos h12] at h0
    split
    case isFalse => rename_i hf; rw [if_neg hf] at h0; simp at h0
    rename_i hf; rw [if_pos hf] at h0
    obtain ⟨p, hp⟩ : ∃ p : Nat, m.fr = p := ⟨m.fr.toNat, by omega⟩
    obtain ⟨q, hq⟩ : ∃ q : Nat, m.to = q := ⟨m.to.toNat, by omega⟩
    have hpn : p < s.values.length := by omega
    have hqn : q < s.values.length := by omega
    have hne : p ≠ q := by omega
    rw [hp, hq] at h0 ⊢
    simp only [Int.toNat_natCast] at h0 ⊢
    have hl := chan_lt hpn hqn
    have gk := hg _ hl
    split
    · rename_i h1; rw [if_pos h1] at h0
      split
      · rename_i h6; rw [if_pos h6] at h0; simp at h0
      · refine con_send h hpn hqn fun hR => ?_
        unfold Good at gk
        simp only [idx_div hqn, idx_mod hqn, if_neg hne, hR, Bool.false_eq_true, if_false] at gk
        exact gk.1
    · rename_i h1; rw [if_neg h1] at h0
      unfold delF at h0 ⊢
      split
      · rename_i hh; rw [hh] at h0; simp at h0
      · rename_i x r hh
        have hk1 : chA s (p * s.values.length + q) = (true, x) :: r := hh
        have gk2 := gk
        unfold Good at gk2
        simp only [idx_div hqn, idx_mod hqn, if_neg hne, hk1, mks, if_true] at gk2
        have hRp : Rd s p = true := by
          by_cases hR : Rd s p = true
          · exact hR
          · rw [if_neg hR] at gk2; omega
        rw [if_pos hRp] at gk2
        have hr0 : mks r = 0 := by rcases gk2 with gk2 | gk2 <;> omega
        have hcl : r.length ≤ k := by
          cases hc : s.chans[p * s.values.length + q]? with
          | none => simp [hc] at hh
          | some z => have := h.wh.chk z (List.mem_of_getElem? hc); simp [hc] at hh; rw [hh] at this; simp at this; omega
        have hi1 := inv_putC (j := p * s.values.length + q) h hcl
        obtain ⟨a, b⟩ := con_putM h hpn hqn hRp hr0 hk1
        have hself : ∀ j, j < (putC s (p * s.values.length + q) r).values.length * (putC s (p * s.values.length + q) r).values.length → j / (putC s (p * s.values.length + q) r).values.length = j % (putC s (p * s.values.length + q) r).values.length → chA (putC s (p * s.values.length + q) r) j = [] := by
          intro j hj he
          have hj : j < s.values.length * s.values.length := hj
          have he : j / s.values.length = j % s.values.length := he
          simp only [chA, putC, getD_set]
          rw [if_neg]
          · exact good_self hg j hj he
          · rintro ⟨e, _⟩
            rw [← e, idx_div hqn, idx_mod hqn] at he; exact hne he
        obtain ⟨c, d⟩ := pre_mark hi1 hself (p := q) hqn
        have e1 : preT (shutF (markF (putC s (p * s.values.length + q) r) q) (p * s.values.length + q)) = preT (markF (putC s (p * s.values.length + q) r) q) := rfl
        have e2 : recT (shutF (markF (putC s (p * s.values.length + q) r) q) (p * s.values.length + q)) = recT (markF (putC s (p * s.values.length + q) r) q) := rfl
        simp only
        rw [e1, e2, c, d, a, b]
        exact ⟨.refl _, .refl _⟩
      · rename_i x r hh
        exact con_recv h hpn hqn hne gk hh
theorem con_new {v : List Int} (hv : 1 ≤ v.length) : preT (newSnap v) = sumN (gI v) v.length ∧ recT (newSnap v) = sumN (gI v) v.length := by
  have z : ∀ n, sumN (fun _ => 0) n = 0 := by intro n; induction n with | zero => rfl | succ n ih => simp [sumN, ih]
  have hc : ∀ j, j < v.length * v.length → chA (newSnap v) j = [] := fun j hj => by simp [chA, newSnap, hj]
  constructor
  · unfold preT
    rw [show (newSnap v).values = v from rfl, sumN_congr (f := fun k => allS (chA (newSnap v) k)) (g := fun _ => 0) fun j hj => by rw [hc j hj]; rfl, z]
    omega
  · unfold recT
    rw [show (newSnap v).values = v from rfl, sumN_congr (f := conA (newSnap v)) (g := fun _ => 0) fun j hj => ?_, z]
    · rw [sumN_congr (f := savA (newSnap v)) (g := gI v) fun p hp => ?_]
      · omega
      · have : Rd (newSnap v) p = false := by simp [Rd, newSnap, hp]
        unfold savA; rw [this]; rfl
    · unfold conA
      rw [hc j hj]
      have : rcA (newSnap v) j = [] := by simp [rcA, newSnap, hj]
      rw [this]; simp [totI, preS]
theorem eqW {a b : Int} (ha : IntKind.i64.wrap a = a) (hb : IntKind.i64.wrap b = b) (h : E64 a b) : a = b := by rw [← ha, ← hb]; exact wrapEq h
structure Held (v : List Int) (s : Snap) : Prop where
  good : AllGood s
  pre : E64 (preT s) (sumN (gI v) v.length)
  recd : E64 (recT s) (sumN (gI v) v.length)
theorem held_new {v : List Int} (hv : 1 ≤ v.length) : Held v (newSnap v) := ⟨good_new hv, by rw [(con_new hv).1]; exact .refl _, by rw [(con_new hv).2]; exact .refl _⟩
theorem held_adv {v : List Int} {k : Nat} {s : Snap} (h : Live k s) (hh : Held v s) (m : Mv) : Held v (advF s m) := by
  unfold advF
  split
  · rename_i h0
    obtain ⟨a, b⟩ := con_step h hh.good m h0
    exact ⟨good_step h hh.good m h0, a.trans hh.pre, b.trans hh.recd⟩
  · exact hh
theorem held_tot {v : List Int} {k : Nat} {s : Snap} (h : Live k s) (hh : Held v s) : (totF s).1 = sumI 0 v ∧ (doneF s = true → (totF s).2 = sumI 0 v) := by
  have h1 := sumI_N 0 v
  rw [Int.zero_add] at h1
  have hw := wr_tot s
  have hv := wr_sumI 0 v wr_0
  exact ⟨eqW hw.1 hv (((tot_pre h).trans hh.pre).trans h1.symm), fun hd => eqW hw.2 hv (((tot_rec h hh.good hd).trans hh.recd).trans h1.symm)⟩
end Pv

set_option maxRecDepth 100000
set_option linter.unusedVariables false
set_option linter.unusedSimpArgs false
namespace Pv
open Go
def codesRow (l : Lab) (cs : List Int) (a : Nat) : List V := [.sl l 1 (cs.map encU), .sc (.int .i64 a)]
structure Codes (l : Lab) (cs : List Int) (a : Nat) : Prop where
  hl : l ≠ .own
  le : a ≤ cs.length
  sm : cs.length < 4611686018427387904
  wf : ∀ x ∈ cs, 0 ≤ x ∧ x ≤ 255
theorem dn0 {l : Lab} : Lab.dn 0 l = l := by cases l <;> simp [Lab.dn]
theorem tmodN {c : Int} {n : Nat} (h : 0 ≤ c) : c.tmod n = ((c.toNat % n : Nat) : Int) := by
  obtain ⟨m, rfl⟩ : ∃ m : Nat, c = m := ⟨c.toNat, by omega⟩
  rw [Int.tmod_eq_emod_of_nonneg h]; simp
theorem left_ok {T : Nat → Option Fn} (h44 : T 44 = some c44) {l : Lab} {cs : List Int} {a : Nat} (hc : Codes l cs a) :
    EvF T 44 [] [.one (.ptr 10000 0)] [codesRow l cs a] (.one (.sc (.bool (decide (a < cs.length)))), [codesRow l cs a]) := by
  refine EvF.run h44 ?_
  simp -implicitDefEqProofs -dsimp only [go_sem, reduceIte, reduceCtorEq, Nat.reduceAdd, Nat.reduceMul, Nat.reduceSub, Nat.reduceDiv, Nat.reduceLT, Nat.reduceLeDiff, Nat.reduceEqDiff, Nat.reduceBEq, Nat.reduceBNe, Int.reduceToNat, Int.reduceEq, Int.reduceLT, Int.reduceLE, Int.reduceNeg, c44, codesRow, dn0, hc.hl]
theorem next_ok {T : Nat → Option Fn} (h44 : T 44 = some c44) (h30 : T 30 = some c30) {l : Lab} {cs : List Int} {a : Nat} (hc : Codes l cs a) {n : Nat} (hn : 1 ≤ n) :
    ∃ x a' : Nat, EvF T 30 [] [.one (.ptr 10000 0), .one (.sc (.int .i64 n))] [codesRow l cs a] (.one (.sc (.int .i64 x)), [codesRow l cs a']) ∧ x < n ∧ Codes l cs a' := by
  by_cases h : a < cs.length
  · have e1 : cs[a]? = some cs[a] := by simp [h]
    have hw := hc.wf cs[a] (by simp)
    have hsm := hc.sm
    refine ⟨cs[a].toNat % n, a + 1, ?_, Nat.mod_lt _ (by omega), ⟨hc.hl, h, hc.sm, hc.wf⟩⟩
    refine EvF.run h30 ?_
    simp -implicitDefEqProofs -dsimp only [go_sem, reduceIte, reduceCtorEq, Nat.reduceAdd, Nat.reduceMul, Nat.reduceSub, Nat.reduceDiv, Nat.reduceLT, Nat.reduceLeDiff, Nat.reduceEqDiff, Nat.reduceBEq, Nat.reduceBNe, Int.reduceToNat, Int.reduceEq, Int.reduceLT, Int.reduceLE, Int.reduceNeg, c30, codesRow, dn0, hc.hl]
    have hlft := left_ok h44 hc
    refine CallF.intro hlft ?_
    have w1 : IntKind.i64.wrap (((a + 1 : Nat) : Int) - 1) = (a : Int) := by rw [w64 (by omega) (by omega)]; omega
    have w2 : IntKind.i64.wrap cs[a] = cs[a] := w64 (by omega) (by omega)
    have hn0 : ((n : Int) = 0) = False := eq_false (by omega)
    simp -implicitDefEqProofs -dsimp only [go_sem, reduceIte, reduceCtorEq, Nat.reduceAdd, Nat.reduceMul, Nat.reduceSub, Nat.reduceDiv, Nat.reduceLT, Nat.reduceLeDiff, Nat.reduceEqDiff, Nat.reduceBEq, Nat.reduceBNe, Int.reduceToNat, Int.reduceEq, Int.reduceLT, Int.reduceLE, Int.reduceNeg, c30, codesRow, dn0, hc.hl, h, wS (show a < 4611686018427387904 by omega), w1, w2, e1, hn0, tmodN hw.1]
  · refine ⟨0, a, ?_, by omega, hc⟩
    refine EvF.run h30 ?_
    simp -implicitDefEqProofs -dsimp only [go_sem, reduceIte, reduceCtorEq, Nat.reduceAdd, Nat.reduceMul, Nat.reduceSub, Nat.reduceDiv, Nat.reduceLT, Nat.reduceLeDiff, Nat.reduceEqDiff, Nat.reduceBEq, Nat.reduceBNe, Int.reduceToNat, Int.reduceEq, Int.reduceLT, Int.reduceLE, Int.reduceNeg, c30, codesRow, dn0, hc.hl]
    have hlft := left_ok h44 hc
    refine CallF.intro hlft ?_
    simp -implicitDefEqProofs -dsimp only [go_sem, reduceIte, reduceCtorEq, Nat.reduceAdd, Nat.reduceMul, Nat.reduceSub, Nat.reduceDiv, Nat.reduceLT, Nat.reduceLeDiff, Nat.reduceEqDiff, Nat.reduceBEq, Nat.reduceBNe, Int.reduceToNat, Int.reduceEq, Int.reduceLT, Int.reduceLE, Int.reduceNeg, c30, codesRow, dn0, hc.hl, h]
theorem int_ok {T : Nat → Option Fn} (h44 : T 44 = some c44) (h30 : T 30 = some c30) (h45 : T 45 = some c45) {l : Lab} {cs : List Int} {a : Nat} (hc : Codes l cs a) :
    ∃ (x : Int) (a' : Nat), EvF T 45 [] [.one (.ptr 10000 0)] [codesRow l cs a] (.one (.sc (.int .i64 x)), [codesRow l cs a']) ∧ Codes l cs a' := by
  obtain ⟨x1, b1, n1, l1, hc1⟩ := next_ok h44 h30 hc (n := 6) (by omega)
  by_cases h5 : x1 = 5
  · obtain ⟨x2, b2, n2, l2, hc2⟩ := next_ok h44 h30 hc1 (n := 10) (by omega)
    obtain ⟨y, hy⟩ : ∃ y, (((((((((((List.replicate 10 (0 : Int)).set 0 9223372036854775807).set 1 (-9223372036854775808)).set 2 2147483648).set 3 (-1)).set 4 63).set 5 64).set 6 (-65)).set 7 127).set 8 128).set 9 1099511627776)[x2]? = some y := ⟨_, List.getElem?_eq_getElem (by simp; omega)⟩
    refine ⟨y, b2, ?_, hc2⟩
    refine EvF.run h45 ?_
    simp -implicitDefEqProofs -dsimp only [go_sem, reduceIte, reduceCtorEq, Nat.reduceAdd, Nat.reduceMul, Nat.reduceSub, Nat.reduceDiv, Nat.reduceLT, Nat.reduceLeDiff, Nat.reduceEqDiff, Nat.reduceBEq, Nat.reduceBNe, Int.reduceToNat, Int.reduceEq, Int.reduceLT, Int.reduceLE, Int.reduceNeg, c45, codesRow, dn0, hc.hl]
    refine CallF.intro n1 ?_
    have e5 : ((x1 : Int) = 5) = True := eq_true (by omega)
    simp -implicitDefEqProofs -dsimp only [go_sem, reduceIte, reduceCtorEq, Nat.reduceAdd, Nat.reduceMul, Nat.reduceSub, Nat.reduceDiv, Nat.reduceLT, Nat.reduceLeDiff, Nat.reduceEqDiff, Nat.reduceBEq, Nat.reduceBNe, Int.reduceToNat, Int.reduceEq, Int.reduceLT, Int.reduceLE, Int.reduceNeg, c45, codesRow, dn0, hc.hl, e5]
    refine CallF.intro n2 ?_
    have hlt : (x2 < 10) = True := eq_true (by omega)
    simp -implicitDefEqProofs -dsimp only [go_sem, reduceIte, reduceCtorEq, Nat.reduceAdd, Nat.reduceMul, Nat.reduceSub, Nat.reduceDiv, Nat.reduceLT, Nat.reduceLeDiff, Nat.reduceEqDiff, Nat.reduceBEq, Nat.reduceBNe, Int.reduceToNat, Int.reduceEq, Int.reduceLT, Int.reduceLE, Int.reduceNeg, c45, codesRow, dn0, hc.hl, hlt, hy]
  · obtain ⟨x2, b2, n2, l2, hc2⟩ := next_ok h44 h30 hc1 (n := 12) (by omega)
    refine ⟨IntKind.i64.wrap (x2 - 2), b2, ?_, hc2⟩
    refine EvF.run h45 ?_
    simp -implicitDefEqProofs -dsimp only [go_sem, reduceIte, reduceCtorEq, Nat.reduceAdd, Nat.reduceMul, Nat.reduceSub, Nat.reduceDiv, Nat.reduceLT, Nat.reduceLeDiff, Nat.reduceEqDiff, Nat.reduceBEq, Nat.reduceBNe, Int.reduceToNat, Int.reduceEq, Int.reduceLT, Int.reduceLE, Int.reduceNeg, c45, codesRow, dn0, hc.hl]
    refine CallF.intro n1 ?_
    have e5 : ((x1 : Int) = 5) = False := eq_false (by omega)
    simp -implicitDefEqProofs -dsimp only [go_sem, reduceIte, reduceCtorEq, Nat.reduceAdd, Nat.reduceMul, Nat.reduceSub, Nat.reduceDiv, Nat.reduceLT, Nat.reduceLeDiff, Nat.reduceEqDiff, Nat.reduceBEq, Nat.reduceBNe, Int.reduceToNat, Int.reduceEq, Int.reduceLT, Int.reduceLE, Int.reduceNeg, c45, codesRow, dn0, hc.hl, e5]
    refine CallF.intro n2 ?_
    simp -implicitDefEqProofs -dsimp only [go_sem, reduceIte, reduceCtorEq, Nat.reduceAdd, Nat.reduceMul, Nat.reduceSub, Nat.reduceDiv, Nat.reduceLT, Nat.reduceLeDiff, Nat.reduceEqDiff, Nat.reduceBEq, Nat.reduceBNe, Int.reduceToNat, Int.reduceEq, Int.reduceLT, Int.reduceLE, Int.reduceNeg, c45, codesRow, dn0, hc.hl]
end Pv

set_option maxRecDepth 100000
set_option linter.unusedVariables false
set_option linter.unusedSimpArgs false
namespace Pv
open Go
theorem EvF.runE {T : Nat → Option Fn} {f : Nat} {fn : Fn} {io : List Nat} {args : List Pv.T} {ext : List (List V)} {P : Pv.T × List (List V) → Prop} (hf : T f = some fn)
    (h : andThen (start fn io args ext) fun s0 => WC T ⟨fn.named, fn.io.map fun x => (x.1, x.2.1)⟩ fn.code s0 fun ex s => notExit ex = true ∧ ∃ r, fin fn ⟨fn.named, fn.io.map fun x => (x.1, x.2.1)⟩ ext s = some r ∧ P r) : ∃ r, EvF T f io args ext r ∧ P r := by
  obtain ⟨s0, h1, h2⟩ := andThen_ex h
  obtain ⟨ex, s2, ⟨n0, h3⟩, h4, r, h5, hP⟩ := WC.ev h2
  refine ⟨r, ?_, hP⟩
  refine EvF.of hf ⟨n0, fun n hn => ?_⟩
  unfold start req at h1
  split at h1
  case isFalse => simp at h1
  rename_i hc
  unfold evFn
  simp only
  rw [if_neg (by
    intro hh
    rcases hh with hh | hh | hh
    · exact hh hc.1
    · exact hh hc.2.1
    · exact Bool.noConfusion (hh.symm.trans hc.2.2))]
  rw [h1]
  simp only [h3 n n hn hn]
  unfold fin at h5
  cases hr : readAll s2 ⟨fn.named, fn.io.map fun x => (x.1, x.2.1)⟩ fn.results with
  | none => simp [hr, bo] at h5
  | some x =>
  simp only [hr, bo_some] at h5
  cases he : extRows x.2 0 (ext.take (ext.length - fn.io.length)) with
  | none => simp [he, bo] at h5
  | some e1 =>
  simp only [he, bo_some] at h5
  cases hi : ioOut x.2 fn.io (ext.drop (ext.length - fn.io.length)) with
  | none => simp [hi, bo] at h5
  | some e2 =>
  simp only [hi, bo_some] at h5
  unfold req at h5
  split at h5
  case isFalse => simp at h5
  rename_i hok
  obtain ⟨ts, s3⟩ := x
  cases ex with
  | exit id => simp [notExit] at h4
  | nrm => simp only [hr, he, hi, hok]; exact h5
  | ret => simp only [hr, he, hi, hok]; exact h5
set_option maxHeartbeats 16000000
theorem codes_ok {T : Nat → Option Fn} (h29 : T 29 = some c29) (cs : List Int) (hs : cs.length < 4611686018427387904) (hw : ∀ x ∈ cs, 0 ≤ x ∧ x ≤ 255) :
    EvF T 29 [] [.one (.sl .ro 1 (cs.map encU)), .one (.sc (.int .i64 160))] [] (.one (.ptr 20000 0), [codesRow .ro (cs.take 160) 0]) ∧ Codes .ro (cs.take 160) 0 := by
  refine ⟨?_, by simp, by simp, by simp; omega, fun x hx => hw x (List.mem_of_mem_take hx)⟩
  refine EvF.run h29 ?_
  simp -implicitDefEqProofs -dsimp only [go_sem, reduceIte, reduceCtorEq, Nat.reduceAdd, Nat.reduceMul, Nat.reduceSub, Nat.reduceDiv, Nat.reduceLT, Nat.reduceLeDiff, Nat.reduceEqDiff, Nat.reduceBEq, Nat.reduceBNe, Int.reduceToNat, Int.reduceEq, Int.reduceLT, Int.reduceLE, Int.reduceNeg, c29]
  by_cases h : (160 : Int) < cs.length
  · have h2 : ((160 : Int) ≤ cs.length) = True := eq_true (by omega)
    simp -implicitDefEqProofs -dsimp only [go_sem, reduceIte, reduceCtorEq, Nat.reduceAdd, Nat.reduceMul, Nat.reduceSub, Nat.reduceDiv, Nat.reduceLT, Nat.reduceLeDiff, Nat.reduceEqDiff, Nat.reduceBEq, Nat.reduceBNe, Int.reduceToNat, Int.reduceEq, Int.reduceLT, Int.reduceLE, Int.reduceNeg, c29, h, h2]
    rfl
  · have h3 : cs.take 160 = cs := List.take_of_length_le (by omega)
    simp -implicitDefEqProofs -dsimp only [go_sem, reduceIte, reduceCtorEq, Nat.reduceAdd, Nat.reduceMul, Nat.reduceSub, Nat.reduceDiv, Nat.reduceLT, Nat.reduceLeDiff, Nat.reduceEqDiff, Nat.reduceBEq, Nat.reduceBNe, Int.reduceToNat, Int.reduceEq, Int.reduceLT, Int.reduceLE, Int.reduceNeg, c29, h]
    rw [h3]; rfl
structure TabC (T : Nat → Option Fn) : Prop where
  h29 : T 29 = some c29
  h30 : T 30 = some c30
  h31 : T 31 = some c31
  h44 : T 44 = some c44
  h45 : T 45 = some c45
theorem moves_ok {T : Nat → Option Fn} (hT : TabC T) {l : Lab} {cs : List Int} {a : Nat} (hc : Codes l cs a) {n : Nat} (hn : 2 ≤ n) (hn4 : n ≤ 4) :
    ∃ r, EvF T 31 [] [.one (.ptr 10000 0), .one (.sc (.int .i64 n)), .one (.sc (.int .i64 50))] [codesRow l cs a] r ∧
      ∃ (ms : List Mv) (a' : Nat), r = (.one (.sl .own 4 (ms.map encM)), [codesRow l cs a']) ∧ ms.length ≤ 50 := by
  obtain ⟨h29, h30, h31, h44, h45⟩ := hT
  refine EvF.runE h31 ?_
  have hl := hc.hl
  simp -implicitDefEqProofs -dsimp only [go_sem, reduceIte, reduceCtorEq, Nat.reduceAdd, Nat.reduceMul, Nat.reduceSub, Nat.reduceDiv, Nat.reduceLT, Nat.reduceLeDiff, Nat.reduceEqDiff, Nat.reduceBEq, Nat.reduceBNe, Int.reduceToNat, Int.reduceEq, Int.reduceLT, Int.reduceLE, Int.reduceNeg, c31, codesRow, hl]
  refine LoopW.intro (fun m t => ∃ (ms : List Mv) (a : Nat), m + ms.length = 50 ∧ Codes l cs a ∧ t = [(0, .one (.ptr 10000 0), 0), (1, .one (.sc (.int .i64 n)), 0), (2, .one (.sc (.int .i64 50)), 0), (7, .one (.sl .own 4 (ms.map encM)), 0), (10000, .agg (codesRow l cs a), 0)]) ?_ 50 ?_
  case refine_2 => simp -implicitDefEqProofs -dsimp only [go_sem, reduceIte, reduceCtorEq, Nat.reduceAdd, Nat.reduceMul, Nat.reduceSub, Nat.reduceDiv, Nat.reduceLT, Nat.reduceLeDiff, Nat.reduceEqDiff, Nat.reduceBEq, Nat.reduceBNe, Int.reduceToNat, Int.reduceEq, Int.reduceLT, Int.reduceLE, Int.reduceNeg, c31]; exact ⟨[], a, rfl, hc, rfl⟩
  rintro m t ⟨ms, b, hm, hb, rfl⟩
  simp -implicitDefEqProofs -dsimp only [go_sem, reduceIte, reduceCtorEq, Nat.reduceAdd, Nat.reduceMul, Nat.reduceSub, Nat.reduceDiv, Nat.reduceLT, Nat.reduceLeDiff, Nat.reduceEqDiff, Nat.reduceBEq, Nat.reduceBNe, Int.reduceToNat, Int.reduceEq, Int.reduceLT, Int.reduceLE, Int.reduceNeg, c31, codesRow, hl]
  by_cases h50 : ms.length < 50
  case neg =>
    have h50' : ((ms.length : Int) < 50) = False := eq_false (by omega)
    simp -implicitDefEqProofs -dsimp only [go_sem, reduceIte, reduceCtorEq, Nat.reduceAdd, Nat.reduceMul, Nat.reduceSub, Nat.reduceDiv, Nat.reduceLT, Nat.reduceLeDiff, Nat.reduceEqDiff, Nat.reduceBEq, Nat.reduceBNe, Int.reduceToNat, Int.reduceEq, Int.reduceLT, Int.reduceLE, Int.reduceNeg, c31, h50']
    refine ⟨_, rfl, ms, b, rfl, by omega⟩
  have h50' : ((ms.length : Int) < 50) = True := eq_true (by omega)
  simp -implicitDefEqProofs -dsimp only [go_sem, reduceIte, reduceCtorEq, Nat.reduceAdd, Nat.reduceMul, Nat.reduceSub, Nat.reduceDiv, Nat.reduceLT, Nat.reduceLeDiff, Nat.reduceEqDiff, Nat.reduceBEq, Nat.reduceBNe, Int.reduceToNat, Int.reduceEq, Int.reduceLT, Int.reduceLE, Int.reduceNeg, c31, codesRow, hl, h50']
  refine CallF.intro (left_ok h44 hb) ?_
  by_cases hbl : b < cs.length
  case neg =>
    simp -implicitDefEqProofs -dsimp only [go_sem, reduceIte, reduceCtorEq, Nat.reduceAdd, Nat.reduceMul, Nat.reduceSub, Nat.reduceDiv, Nat.reduceLT, Nat.reduceLeDiff, Nat.reduceEqDiff, Nat.reduceBEq, Nat.reduceBNe, Int.reduceToNat, Int.reduceEq, Int.reduceLT, Int.reduceLE, Int.reduceNeg, c31, codesRow, dn0, hl, hbl]
    refine ⟨_, rfl, ms, b, rfl, by omega⟩
  simp -implicitDefEqProofs -dsimp only [go_sem, reduceIte, reduceCtorEq, Nat.reduceAdd, Nat.reduceMul, Nat.reduceSub, Nat.reduceDiv, Nat.reduceLT, Nat.reduceLeDiff, Nat.reduceEqDiff, Nat.reduceBEq, Nat.reduceBNe, Int.reduceToNat, Int.reduceEq, Int.reduceLT, Int.reduceLE, Int.reduceNeg, c31, codesRow, dn0, hl, hbl]
  obtain ⟨k, b1, n1, l1, hb1⟩ := next_ok h44 h30 hb (n := 16) (by omega)
  refine CallF.intro n1 ?_
  simp -implicitDefEqProofs -dsimp only [go_sem, reduceIte, reduceCtorEq, Nat.reduceAdd, Nat.reduceMul, Nat.reduceSub, Nat.reduceDiv, Nat.reduceLT, Nat.reduceLeDiff, Nat.reduceEqDiff, Nat.reduceBEq, Nat.reduceBNe, Int.reduceToNat, Int.reduceEq, Int.reduceLT, Int.reduceLE, Int.reduceNeg, c31, codesRow, dn0, hl]
  obtain ⟨p, b2, n2, l2, hb2⟩ := next_ok h44 h30 hb1 (n := n) (by omega)
  refine CallF.intro n2 ?_
  have wn : IntKind.i64.wrap ((n : Int) - 1) = ((n - 1 : Nat) : Int) := by rw [w64 (by omega) (by omega)]; omega
  have mx : ((1 : Int) > ((n - 1 : Nat) : Int)) = False := eq_false (by omega)
  have mx2 : (((n - 1 : Nat) : Int) < (1 : Int)) = False := eq_false (by omega)
  simp -implicitDefEqProofs -dsimp only [go_sem, reduceIte, reduceCtorEq, Nat.reduceAdd, Nat.reduceMul, Nat.reduceSub, Nat.reduceDiv, Nat.reduceLT, Nat.reduceLeDiff, Nat.reduceEqDiff, Nat.reduceBEq, Nat.reduceBNe, Int.reduceToNat, Int.reduceEq, Int.reduceLT, Int.reduceLE, Int.reduceNeg, c31, codesRow, dn0, hl, wn, mx, mx2]
  obtain ⟨q, b3, n3, l3, hb3⟩ := next_ok h44 h30 hb2 (n := n - 1) (by omega)
  refine CallF.intro n3 ?_
  have hn0 : ((n : Int) = 0) = False := eq_false (by omega)
  simp -implicitDefEqProofs -dsimp only [go_sem, reduceIte, reduceCtorEq, Nat.reduceAdd, Nat.reduceMul, Nat.reduceSub, Nat.reduceDiv, Nat.reduceLT, Nat.reduceLeDiff, Nat.reduceEqDiff, Nat.reduceBEq, Nat.reduceBNe, Int.reduceToNat, Int.reduceEq, Int.reduceLT, Int.reduceLE, Int.reduceNeg, c31, codesRow, dn0, hl, hn0]
  have happ : ((ms.length + 1) * 32 ≤ 2 ^ 47) = True := eq_true (by omega)
  by_cases k6 : k < 6
  · have k6' : ((k : Int) < 6) = True := eq_true (by omega)
    simp -implicitDefEqProofs -dsimp only [go_sem, reduceIte, reduceCtorEq, Nat.reduceAdd, Nat.reduceMul, Nat.reduceSub, Nat.reduceDiv, Nat.reduceLT, Nat.reduceLeDiff, Nat.reduceEqDiff, Nat.reduceBEq, Nat.reduceBNe, Int.reduceToNat, Int.reduceEq, Int.reduceLT, Int.reduceLE, Int.reduceNeg, c31, codesRow, dn0, hl, k6']
    obtain ⟨x, b4, n4, hb4⟩ := int_ok h44 h30 h45 hb3
    refine CallF.intro n4 ?_
    simp -implicitDefEqProofs -dsimp only [go_sem, reduceIte, reduceCtorEq, Nat.reduceAdd, Nat.reduceMul, Nat.reduceSub, Nat.reduceDiv, Nat.reduceLT, Nat.reduceLeDiff, Nat.reduceEqDiff, Nat.reduceBEq, Nat.reduceBNe, Int.reduceToNat, Int.reduceEq, Int.reduceLT, Int.reduceLE, Int.reduceNeg, c31, codesRow, dn0, hl, happ]
    exact ⟨m - 1, by omega, _, b4, by simp; omega, hb4, rfl⟩
  have k6' : ((k : Int) < 6) = False := eq_false (by omega)
  by_cases k14 : k < 14
  · have k14' : ((k : Int) < 14) = True := eq_true (by omega)
    simp -implicitDefEqProofs -dsimp only [go_sem, reduceIte, reduceCtorEq, Nat.reduceAdd, Nat.reduceMul, Nat.reduceSub, Nat.reduceDiv, Nat.reduceLT, Nat.reduceLeDiff, Nat.reduceEqDiff, Nat.reduceBEq, Nat.reduceBNe, Int.reduceToNat, Int.reduceEq, Int.reduceLT, Int.reduceLE, Int.reduceNeg, c31, codesRow, dn0, hl, k6', k14', happ]
    exact ⟨m - 1, by omega, _, b3, by simp; omega, hb3, rfl⟩
  have k14' : ((k : Int) < 14) = False := eq_false (by omega)
  by_cases ke : k = 14
  · have ke' : ((k : Int) = 14) = True := eq_true (by omega)
    simp -implicitDefEqProofs -dsimp only [go_sem, reduceIte, reduceCtorEq, Nat.reduceAdd, Nat.reduceMul, Nat.reduceSub, Nat.reduceDiv, Nat.reduceLT, Nat.reduceLeDiff, Nat.reduceEqDiff, Nat.reduceBEq, Nat.reduceBNe, Int.reduceToNat, Int.reduceEq, Int.reduceLT, Int.reduceLE, Int.reduceNeg, c31, codesRow, dn0, hl, k6', k14', ke', happ]
    exact ⟨m - 1, by omega, _, b3, by simp; omega, hb3, rfl⟩
  have ke' : ((k : Int) = 14) = False := eq_false (by omega)
  simp -implicitDefEqProofs -dsimp only [go_sem, reduceIte, reduceCtorEq, Nat.reduceAdd, Nat.reduceMul, Nat.reduceSub, Nat.reduceDiv, Nat.reduceLT, Nat.reduceLeDiff, Nat.reduceEqDiff, Nat.reduceBEq, Nat.reduceBNe, Int.reduceToNat, Int.reduceEq, Int.reduceLT, Int.reduceLE, Int.reduceNeg, c31, codesRow, dn0, hl, k6', k14', ke', happ]
  obtain ⟨x, b4, n4, hb4⟩ := int_ok h44 h30 h45 hb3
  refine CallF.intro n4 ?_
  simp -implicitDefEqProofs -dsimp only [go_sem, reduceIte, reduceCtorEq, Nat.reduceAdd, Nat.reduceMul, Nat.reduceSub, Nat.reduceDiv, Nat.reduceLT, Nat.reduceLeDiff, Nat.reduceEqDiff, Nat.reduceBEq, Nat.reduceBNe, Int.reduceToNat, Int.reduceEq, Int.reduceLT, Int.reduceLE, Int.reduceNeg, c31, codesRow, dn0, hl]
  obtain ⟨y, b5, n5, hb5⟩ := int_ok h44 h30 h45 hb4
  refine CallF.intro n5 ?_
  simp -implicitDefEqProofs -dsimp only [go_sem, reduceIte, reduceCtorEq, Nat.reduceAdd, Nat.reduceMul, Nat.reduceSub, Nat.reduceDiv, Nat.reduceLT, Nat.reduceLeDiff, Nat.reduceEqDiff, Nat.reduceBEq, Nat.reduceBNe, Int.reduceToNat, Int.reduceEq, Int.reduceLT, Int.reduceLE, Int.reduceNeg, c31, codesRow, dn0, hl]
  obtain ⟨z, b6, n6, hb6⟩ := int_ok h44 h30 h45 hb5
  refine CallF.intro n6 ?_
  simp -implicitDefEqProofs -dsimp only [go_sem, reduceIte, reduceCtorEq, Nat.reduceAdd, Nat.reduceMul, Nat.reduceSub, Nat.reduceDiv, Nat.reduceLT, Nat.reduceLeDiff, Nat.reduceEqDiff, Nat.reduceBEq, Nat.reduceBNe, Int.reduceToNat, Int.reduceEq, Int.reduceLT, Int.reduceLE, Int.reduceNeg, c31, codesRow, dn0, hl, happ]
  exact ⟨m - 1, by omega, _, b6, by simp; omega, hb6, rfl⟩
end Pv

set_option maxRecDepth 100000
set_option linter.unusedVariables false
set_option linter.unusedSimpArgs false
namespace Pv
open Go
set_option maxHeartbeats 16000000
theorem begin_ok {T : Nat → Option Fn} (hT : TabC T) (h14 : T 14 = some c14) (vs cs : List Int) (hv : vs.length < 4611686018427387904) (hs : cs.length < 4611686018427387904) (hw : ∀ x ∈ cs, 0 ≤ x ∧ x ≤ 255) :
    ∃ r, EvF T 14 [] [.one (.sl .ro 1 (vs.map encI)), .one (.sl .ro 1 (cs.map encU))] [] r ∧
      ∃ (v : List Int) (ms : List Mv), r = (.tup [.one (.sl .own 1 (v.map encI)), .one (.sl .own 4 (ms.map encM))], []) ∧ 2 ≤ v.length ∧ v.length ≤ 4 ∧ ms.length ≤ 50 := by
  obtain ⟨n1, hc⟩ := codes_ok hT.h29 cs hs hw
  refine EvF.runE h14 ?_
  simp -implicitDefEqProofs -dsimp only [go_sem, reduceIte, reduceCtorEq, Nat.reduceAdd, Nat.reduceMul, Nat.reduceSub, Nat.reduceDiv, Nat.reduceLT, Nat.reduceLeDiff, Nat.reduceEqDiff, Nat.reduceBEq, Nat.reduceBNe, Int.reduceToNat, Int.reduceEq, Int.reduceLT, Int.reduceLE, Int.reduceNeg, c14]
  refine CallF.intro n1 ?_
  simp -implicitDefEqProofs -dsimp only [go_sem, reduceIte, reduceCtorEq, Nat.reduceAdd, Nat.reduceMul, Nat.reduceSub, Nat.reduceDiv, Nat.reduceLT, Nat.reduceLeDiff, Nat.reduceEqDiff, Nat.reduceBEq, Nat.reduceBNe, Int.reduceToNat, Int.reduceEq, Int.reduceLT, Int.reduceLE, Int.reduceNeg, c14, codesRow]
  obtain ⟨x, b, n2, l2, hb⟩ := next_ok hT.h44 hT.h30 hc (n := 3) (by omega)
  refine CallF.intro n2 ?_
  have w1 : IntKind.i64.wrap (2 + (x : Int)) = ((2 + x : Nat) : Int) := by rw [w64 (by omega) (by omega)]; omega
  simp -implicitDefEqProofs -dsimp only [go_sem, reduceIte, reduceCtorEq, Nat.reduceAdd, Nat.reduceMul, Nat.reduceSub, Nat.reduceDiv, Nat.reduceLT, Nat.reduceLeDiff, Nat.reduceEqDiff, Nat.reduceBEq, Nat.reduceBNe, Int.reduceToNat, Int.reduceEq, Int.reduceLT, Int.reduceLE, Int.reduceNeg, c14, codesRow, w1]
  refine LoopW.intro (fun m t => ∃ (o : List Int), m + o.length = 2 + x ∧ t = [(0, .one (.sl .ro 1 (vs.map encI)), 0), (6, .one (.ptr 5012 0), 0), (7, .one (.sc (.int .i64 ((2 + x : Nat) : Int))), 0), (8, .one (.sl .own 1 (o.map encI)), 0), (9, .one (.sc (.int .i64 o.length)), 0), (5012, .agg (codesRow .ro (cs.take 160) b), 0)]) ?_ (2 + x) ?_
  case refine_2 => simp -implicitDefEqProofs -dsimp only [go_sem, reduceIte, reduceCtorEq, Nat.reduceAdd, Nat.reduceMul, Nat.reduceSub, Nat.reduceDiv, Nat.reduceLT, Nat.reduceLeDiff, Nat.reduceEqDiff, Nat.reduceBEq, Nat.reduceBNe, Int.reduceToNat, Int.reduceEq, Int.reduceLT, Int.reduceLE, Int.reduceNeg, c14]; exact ⟨[], rfl, rfl⟩
  rintro m t ⟨o, ho, rfl⟩
  simp -implicitDefEqProofs -dsimp only [go_sem, reduceIte, reduceCtorEq, Nat.reduceAdd, Nat.reduceMul, Nat.reduceSub, Nat.reduceDiv, Nat.reduceLT, Nat.reduceLeDiff, Nat.reduceEqDiff, Nat.reduceBEq, Nat.reduceBNe, Int.reduceToNat, Int.reduceEq, Int.reduceLT, Int.reduceLE, Int.reduceNeg, c14, codesRow]
  by_cases h : o.length < 2 + x
  · have hw10 : IntKind.i64.wrap (10 * (o.length : Int)) = 10 * (o.length : Int) := w64 (by omega) (by omega)
    have happ : ((o.length + 1) * 8 ≤ 2 ^ 47) = True := eq_true (by omega)
    by_cases hi : o.length < vs.length
    · have e1 : vs[o.length]? = some vs[o.length] := by simp [hi]
      simp -implicitDefEqProofs -dsimp only [go_sem, reduceIte, reduceCtorEq, Nat.reduceAdd, Nat.reduceMul, Nat.reduceSub, Nat.reduceDiv, Nat.reduceLT, Nat.reduceLeDiff, Nat.reduceEqDiff, Nat.reduceBEq, Nat.reduceBNe, Int.reduceToNat, Int.reduceEq, Int.reduceLT, Int.reduceLE, Int.reduceNeg, c14, h, hi, e1, hw10, happ, wS (show o.length < 4611686018427387904 by omega)]
      refine ⟨m - 1, by omega, o ++ [vs[o.length]], by simp; omega, ?_⟩
      simp [codesRow]
    · simp -implicitDefEqProofs -dsimp only [go_sem, reduceIte, reduceCtorEq, Nat.reduceAdd, Nat.reduceMul, Nat.reduceSub, Nat.reduceDiv, Nat.reduceLT, Nat.reduceLeDiff, Nat.reduceEqDiff, Nat.reduceBEq, Nat.reduceBNe, Int.reduceToNat, Int.reduceEq, Int.reduceLT, Int.reduceLE, Int.reduceNeg, c14, h, hi, hw10, happ, wS (show o.length < 4611686018427387904 by omega)]
      refine ⟨m - 1, by omega, o ++ [10 * (o.length : Int)], by simp; omega, ?_⟩
      simp [codesRow]
  · simp -implicitDefEqProofs -dsimp only [go_sem, reduceIte, reduceCtorEq, Nat.reduceAdd, Nat.reduceMul, Nat.reduceSub, Nat.reduceDiv, Nat.reduceLT, Nat.reduceLeDiff, Nat.reduceEqDiff, Nat.reduceBEq, Nat.reduceBNe, Int.reduceToNat, Int.reduceEq, Int.reduceLT, Int.reduceLE, Int.reduceNeg, c14, codesRow, h]
    obtain ⟨r, n3, ms, b3, rfl, hms⟩ := moves_ok hT hb (n := 2 + x) (by omega) (by omega)
    refine CallF.intro n3 ?_
    simp -implicitDefEqProofs -dsimp only [go_sem, reduceIte, reduceCtorEq, Nat.reduceAdd, Nat.reduceMul, Nat.reduceSub, Nat.reduceDiv, Nat.reduceLT, Nat.reduceLeDiff, Nat.reduceEqDiff, Nat.reduceBEq, Nat.reduceBNe, Int.reduceToNat, Int.reduceEq, Int.reduceLT, Int.reduceLE, Int.reduceNeg, c14, codesRow]
    refine ⟨_, rfl, o, ms, rfl, by omega, by omega, hms⟩
end Pv
