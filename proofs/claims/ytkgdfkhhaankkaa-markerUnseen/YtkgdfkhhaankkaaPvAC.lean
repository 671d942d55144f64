
import Derived.Test.YtkgdfkhhaankkaaPvAB
set_option linter.all false
set_option linter.unusedVariables false
namespace Pv
open Go
def grdT (w : Bool) : T → Option Bool
  | .one (.sc (.bool b)) => some (b == w)
  | .tup [] => some false
  | _ => none
def scT : T → Option Value
  | .one (.sc v) => some v
  | _ => none
def intT : T → Option Int
  | .one (.sc (.int _ n)) => some n
  | _ => none
def mvV (v : V) (p : Pl) : T := if v.noOwn then .one v else .al p
def mvT (cx : Cx) (s : St) (i : Nat) : T → Option (T × St × List (Nat × Nat))
  | .tup ts => if 100 < ts.length then none else bo (takeTup cx i s 0 ts.length) fun x => some (.tup x.1, x.2.1, x.2.2)
  | .mp .. => none
  | .one v => some (mvV v (Pl.ofTmp s i), s, [])
  | .agg r => some (alaOf r (Pl.ofTmp s i), s, [])
  | t => some (t, s, [])
def sliceV (v : V) (p : Pl) : Option Sv := match v with
  | .sl l sz rows => if l = .own then some ⟨some (p, 0, false), sz, rows, .own⟩ else some ⟨none, sz, rows, l⟩
  | _ => none
def sliceB (v : V) (p : Pl) (lo hi : Nat) (c : Bool) : Option Sv := match v with
  | .sl l sz rows => if l = .own then some ⟨some (p, lo, c), sz, (rows.drop lo).take (hi - lo), .own⟩ else if c then none else some ⟨none, sz, (rows.drop lo).take (hi - lo), l⟩
  | _ => none
def sliceT (s : St) (o : O) : T → Option Sv
  | .one v => (match o with
    | .t i => sliceV v (Pl.ofTmp s i)
    | .c _ => (match v with | .sl l sz rows => some ⟨none, sz, rows, l⟩ | _ => none))
  | .al p => bo (s.cell p) fun v => sliceV v p
  | .slb p lo hi c => bo (s.cell p) fun v => sliceB v p lo hi c
  | _ => none
def idaP (s : St) (sz : Nat) (n : Int) (v : Sv) : Option (T × St × List (Nat × Nat)) := match v.p with
  | some (p, lo, _) => some (.ad { p with path := p.path ++ [(lo + n.toNat, sz, 0)] }, s, [])
  | none => bo v.rows[n.toNat]? fun r => some (.rad r 0, s, [])
def ldP (s : St) (p : Pl) : Option (T × St × List (Nat × Nat)) := bo (s.cell p) fun v => bo (alOf v p) fun t => some (t, s, [])
def ldT (s : St) : T → Option (T × St × List (Nat × Nat))
  | .rad r o => bo r[o]? fun v => some (.one v, s, [])
  | .one (.ptr r k) => ldP s ⟨r, k, [], s.ver r⟩
  | .ad p => ldP s p
  | _ => none
def ldN (s : St) (n : Nat) : T → Option (T × St × List (Nat × Nat))
  | .rad r o => req (o + n ≤ r.length) (some (.agg ((r.drop o).take n), s, []))
  | .one (.ptr r k) => bo (s.cells ⟨r, k, [], s.ver r⟩ n) fun x => some (alaOf x ⟨r, k, [], s.ver r⟩, s, [])
  | .ad p => bo (s.cells p n) fun x => some (alaOf x p, s, [])
  | _ => none
def adT (s : St) : T → Option Pl
  | .one (.ptr r k) => some ⟨r, k, [], s.ver r⟩
  | .ad p => some p
  | _ => none
def fldT (s : St) (off : Nat) : T → Option (T × St × List (Nat × Nat))
  | .one (.ptr r o) => some (.one (.ptr r (o + off)), s, [])
  | .ad p => req ((s.place p).isSome = true) (some (.ad (shift p off), s, []))
  | .rad r o => some (.rad r (o + off), s, [])
  | _ => none
def nilT (s : St) : T → Option (T × St × List (Nat × Nat))
  | .one (.ptr r o) => some (.one (.ptr r o), s, [])
  | .one (.clo f a b) => some (.one (.clo f a b), s, [])
  | .ad p => req ((s.place p).isSome = true) (some (.ad p, s, []))
  | .rad r o => some (.rad r o, s, [])
  | _ => none
def tkT (s : St) (cx : Cx) (res : Bool) (o : O) : T → Option (List V × Bool × Upd × List (Nat × Nat))
  | .one v => (match o with
    | .t i => s.takeAt cx res (Pl.ofTmp s i) [v] [v] false
    | .c _ => req (v.isDead = false) (some ([v], false, [], [])))
  | .agg r => (match o with
    | .t i => s.takeAt cx res (Pl.ofTmp s i) r r true
    | .c _ => req (r.any V.isDead = false) (some (r, true, [], [])))
  | .al p => bo (s.cell p) fun v => s.takeAt cx res p [v.alv] [v] false
  | .ala p n => bo (s.cells p n.length) fun q => s.takeAt cx res p (mergeRow n q) q true
  | .slb p lo hi false => bo (s.cell p) fun v => match v with
    | .sl .own sz rows => bo (s.put p [.dead] false) fun u => some ([.sl .own sz ((rows.drop lo).take (hi - lo))], false, u, [(p.r, p.path.length)])
    | _ => none
  | _ => none
def asT (s : St) (cx : Cx) (res : Bool) (o : O) : T → Option (T × St × List (Nat × Nat))
  | .rad r o => some (.rad r o, s, [])
  | .ad p => some (.ad p, s, [])
  | _ => bo (s.take cx res o) fun x => bo (mkT x.1 x.2.1) fun t => some (t, s.upd x.2.2.1, x.2.2.2)
def ifNone {α β : Type} (o : Option α) (k : Option β) : Option β := match o with
  | none => k
  | some _ => none
def pickV (v : Value) (a b : Option (T × St × List (Nat × Nat))) : Option (T × St × List (Nat × Nat)) := match v with
  | .bool true => a
  | .bool false => b
  | _ => none
def unB : Value → Option Bool
  | .bool b => some b
  | _ => none
def convV (k : IntKind) : Value → Option Value
  | .int _ n => some (.int k (k.wrap n))
  | _ => none
def fvT (s : St) (off : Nat) (o : O) : T → Option (T × St × List (Nat × Nat))
  | .agg r => (match o with
    | .t i => bo r[off]? fun v => bo (alOf v { Pl.ofTmp s i with off := off }) fun t => some (t, s, [])
    | .c _ => none)
  | .ala p m => bo m[off]? fun v => bo (alOf v (shift p off)) fun t => some (t, s, [])
  | _ => none
def lookT (s : St) : T → Option (List V)
  | .agg r => some r
  | .ala p n => s.merge p n
  | _ => none
def grV (v : V) (i sz o : Nat) (p : List (Nat × Nat × Nat)) : Option (List V × Nat) := match v with
  | .sl .own sz' rows => if sz = sz' then (match rows[i]? with
      | some r => getRow r o p
      | none => none) else none
  | _ => none
def srV (row : List V) (off : Nat) (v : V) (i sz o : Nat) (p : List (Nat × Nat × Nat)) (xs : List V) : Option (List V) := match v with
  | .sl .own sz' rows => if sz = sz' then (match rows[i]? with
      | some r => match setRow r o p xs with
        | some r' => some (row.set off (.sl .own sz (rows.set i r')))
        | none => none
      | none => none) else none
  | _ => none
def slbV (s : St) (p : Pl) (lo hi : Nat) (v : V) : Option (List V × Bool × Upd × List (Nat × Nat)) := match v with
  | .sl .own sz rows => bo (s.put p [.dead] false) fun u => some ([.sl .own sz ((rows.drop lo).take (hi - lo))], false, u, [(p.r, p.path.length)])
  | _ => none
def appMv (s : St) (cx : Cx) (p : Option (Pl × Nat × Bool)) : Option (St × List (Nat × Nat)) := match p with
  | some (p, 0, false) => if cx.moves false p then (match s.put p [.dead] false with | some u => some (s.upd u, [(p.r, p.path.length)]) | none => none) else none
  | _ => none
def slcOf (s : St) (sz : Nat) (lo hi max : Bool) (v : Sv) (is : List Int) : Option (T × St × List (Nat × Nat)) :=
      if v.sz ≠ sz then none else
      let l := if lo then is.getD 0 0 else 0
      let h := if hi then is.getD (if lo then 1 else 0) 0 else (v.rows.length : Int)
      if (max && is.getD (if lo then 2 else 1) 0 != h) then none else
      if 0 ≤ l ∧ l ≤ h ∧ h ≤ v.rows.length then (match v.p with
        | some (p, 0, false) => some (.slb p l.toNat h.toNat max, s, [])
        | some _ => none
        | none => if max then none else some (.one (.sl v.lab.inner v.sz ((v.rows.drop l.toNat).take (h.toNat - l.toNat))), s, [])) else none
def mkfT (s : St) (o : O) : Option V := match s.opv o with
      | some (.one (.ptr r o)) => some (V.ptr r o)
      | some (.one (.mref r)) => some (V.mref r)
      | some (.one (.sc v)) => some (V.sc v)
      | _ => none
def i64V : Value → Option Int
  | .int .i64 n => some n
  | _ => none
def slcP (s : St) (v : Sv) (l h : Int) : Option (T × St × List (Nat × Nat)) := match v.p with
        | some (p, 0, false) => some (.slb p l.toNat h.toNat false, s, [])
        | some _ => none
        | none => some (.one (.sl v.lab.inner v.sz ((v.rows.drop l.toNat).take (h.toNat - l.toNat))), s, [])
def slcG (s : St) (sz : Nat) (v : Sv) (l h : Int) : Option (T × St × List (Nat × Nat)) :=
      if v.sz ≠ sz then none else
      if 0 ≤ l ∧ l ≤ h ∧ h ≤ v.rows.length then (match v.p with
        | some (p, 0, false) => some (.slb p l.toNat h.toNat false, s, [])
        | some _ => none
        | none => some (.one (.sl v.lab.inner v.sz ((v.rows.drop l.toNat).take (h.toNat - l.toNat))), s, [])) else none
def mkfV : T → Option V
  | .one (.ptr r o) => some (V.ptr r o)
  | .one (.mref r) => some (V.mref r)
  | .one (.sc v) => some (V.sc v)
  | _ => none
def fvN (s : St) (off n : Nat) (o : O) : T → Option (T × St × List (Nat × Nat))
  | .agg r => (match o with
    | .t i => req (off + n ≤ r.length) (some (alaOf ((r.drop off).take n) { Pl.ofTmp s i with off := off }, s, []))
    | .c _ => none)
  | .ala p m => req (off + n ≤ m.length) (some (alaOf ((m.drop off).take n) (shift p off), s, []))
  | _ => none
def nver (s : St) (d : Nat) : Nat := (bo (s.get d) fun x => some (x.2 + 1)).getD 0
def St.ins (d : Nat) (t : T) : St → St
  | [] => [(d, t, 0)]
  | (j, x) :: s => if j = d then (d, t, x.2 + 1) :: St.drop s d else if d < j then (if j < 30000 then (d, t, nver s d) :: St.drop ((j, x) :: s) d else St.set (St.drop ((j, x) :: s) d) d (t, nver s d)) else (j, x) :: St.ins d t s
section
variable {α β : Type}
variable {Tb : Nat → Option Fn} {C : Orc} {cx : Cx} {s : St} {Q : St → Prop} {R : Ex → St → Prop} {q : Pv.T × St × List (Nat × Nat) → Prop} {q2 : St × List (Nat × Nat) → Prop}
theorem s_at (a : α) (k : α → Prop) : andThen (some a) k = k a := rfl
theorem s_bo (a : α) (k : α → Option β) : bo (some a) k = k a := rfl
theorem s_bn (k : α → Option β) : bo none k = none := rfl
theorem s_rq (k : Option β) : req True k = k := rfl
theorem s_cwt (A B : Unit → Prop) : condW true A B = A () := condW_true A B
theorem s_cwf (A B : Unit → Prop) : condW false A B = B () := condW_false A B
theorem s_on1 (A B : Unit → Prop) : onNrm .nrm A B = A () := rfl
theorem s_on2 (i : Nat) (A B : Unit → Prop) : onNrm (.exit i) A B = B () := rfl
theorem s_on3 (A B : Unit → Prop) : onNrm .ret A B = B () := rfl
theorem s_skip : WC Tb cx .skip s R = R .nrm s := rfl
theorem s_ret : WC Tb cx .ret s R = R .ret s := rfl
theorem s_exit {i : Nat} : WC Tb cx (.exit i) s R = R (.exit i) s := rfl
theorem s_reg {ops : List Ins} {l : List Nat} : WC Tb cx (.reg ops l) s R = WO Tb cx ops s fun s' => R .nrm (s'.keep l) := rfl
theorem s_drw {ops : List Ins} {hs : List Hint} {l : List Nat} : WC Tb cx (.drw ops hs l) s R = WD Tb cx ops hs (s.clear ops) fun s' => R .nrm (s'.keep l) := rfl
theorem s_seq {a b : Cd} : WC Tb cx (.seq a b) s R = WC Tb cx a s fun ex s' => onNrm ex (fun _ => WC Tb cx b s' R) (fun _ => R ex s') := rfl
theorem s_cond {c : O} {a b : Cd} : WC Tb cx (.cond c a b) s R = andThen (bo (s.sc c) boolV) fun v => condW v (fun _ => WC Tb cx a s R) (fun _ => WC Tb cx b s R) := rfl
theorem s_block {i : Nat} {b : Cd} : WC Tb cx (.block i b) s R = WC Tb cx b s fun ex s' => R (outOf i ex) s' := rfl
theorem s_loop {l : List Nat} {b : Cd} : WC Tb cx (.loop l b) s R = LoopW Tb cx l b s R := rfl
theorem s_outNrm {i : Nat} : outOf i .nrm = .nrm := rfl
theorem s_outRet {i : Nat} : outOf i .ret = .ret := rfl
theorem s_outExit {i j : Nat} : outOf i (.exit j) = if j = i then .nrm else .exit j := rfl
theorem s_notNrm : notExit .nrm = true := rfl
theorem s_notRet : notExit .ret = true := rfl
theorem s_boolV {b : Bool} : boolV (.bool b) = some b := rfl
theorem s_WOnil : WO Tb cx [] s Q = Q s := rfl
theorem s_WOcons {k : K} {xs : List O} {d : Option Nat} {is : List Ins} : WO Tb cx (⟨k, xs, d, none⟩ :: is) s Q = (cx.pinned d = false ∧ W1 Tb cx s k xs fun x => WO Tb cx is (putDst x.2.1 d x.1) Q) := rfl
theorem s_WOgrd {k : K} {xs : List O} {d : Option Nat} {g : Nat} {w : Bool} {is : List Ins} : WO Tb cx (⟨k, xs, d, some (g, w)⟩ :: is) s Q = (cx.pinned d = false ∧ andThen (s.grd g w) fun b => condW b (fun _ => W1 Tb cx s k xs fun x => WO Tb cx is (putDst x.2.1 d x.1) Q) (fun _ => WO Tb cx is (putDst s d (.tup [])) Q)) := rfl
theorem s_WDnil : WD Tb cx [] [] s Q = Q s := rfl
theorem s_WDcons {i : Ins} {is : List Ins} {h : Hint} {hs : List Hint} : WD Tb cx (i :: is) (h :: hs) s Q = WI Tb cx (s.restr (h.kd ++ h.ks)) i fun x => drwOk h i s x = true ∧ WD Tb cx is hs (s.mix h.w x.1) Q := rfl
theorem s_WI {k : K} {xs : List O} {d : Option Nat} : WI Tb cx s ⟨k, xs, d, none⟩ q2 = (cx.pinned d = false ∧ W1 Tb cx s k xs fun x => q2 (putDst x.2.1 d x.1, x.2.2 ++ dstRoots x.2.1 d x.1)) := rfl
theorem s_WIg {k : K} {xs : List O} {d : Option Nat} {g : Nat} {w : Bool} : WI Tb cx s ⟨k, xs, d, some (g, w)⟩ q2 = (cx.pinned d = false ∧ andThen (s.grd g w) fun b => condW b (fun _ => W1 Tb cx s k xs fun x => q2 (putDst x.2.1 d x.1, x.2.2 ++ dstRoots x.2.1 d x.1)) (fun _ => q2 (putDst s d (.tup []), dstRoots s d (.tup [])))) := rfl
theorem s_pinned0 {l : List Nat} {d : Option Nat} : Cx.pinned ⟨l, []⟩ d = false := by cases d <;> rfl
theorem s_pinnedN : cx.pinned none = false := rfl
theorem s_pinnedC {l : List Nat} {a b d : Nat} {p : List (Nat × Nat)} : Cx.pinned ⟨l, (a, b) :: p⟩ (some d) = (a == d || b == d || Cx.pinned ⟨l, p⟩ (some d)) := by simp [Cx.pinned]
theorem s_held0 {l : List Nat} {r : Nat} : Cx.held ⟨l, []⟩ r = false := rfl
theorem s_heldC {l : List Nat} {a b r : Nat} {p : List (Nat × Nat)} : Cx.held ⟨l, (a, b) :: p⟩ r = (b == r || Cx.held ⟨l, p⟩ r) := by simp [Cx.held]
theorem s_boxBad0 {l : List Nat} {b : Nat} {o : O} : Cx.boxBad ⟨l, []⟩ b o = false := by cases o <;> rfl
theorem s_boxBadC {l : List Nat} {a c b i : Nat} {p : List (Nat × Nat)} : Cx.boxBad ⟨l, (a, c) :: p⟩ b (.t i) = (c == b && a != i || Cx.boxBad ⟨l, p⟩ b (.t i)) := by simp [Cx.boxBad]
theorem s_moves {nm : List Nat} {p : List (Nat × Nat)} {res : Bool} {pl : Pl} : Cx.moves ⟨nm, p⟩ res pl = (res || (pl.path.isEmpty && decide (pl.r < 5000) && !nm.contains pl.r)) := rfl
theorem s_grd {g : Nat} {w : Bool} : s.grd g w = bo (s.get g) fun x => grdT w x.1 := by
  unfold St.grd
  cases s.get g with
  | none => rfl
  | some x => obtain ⟨t, v⟩ := x; cases t <;> first | rfl | (rename_i u; cases u <;> first | rfl | (rename_i u; cases u <;> rfl))
theorem s_opvT {i : Nat} : s.opv (.t i) = bo (s.get i) fun x => some x.1 := by simp only [St.opv, bo]; cases s.get i <;> rfl
theorem s_opvC {x : Pv.T} : s.opv (.c x) = some x := rfl
theorem s_get0 {i : Nat} : St.get [] i = none := rfl
theorem s_getC {i j : Nat} {x : Slot} {s : St} : St.get ((j, x) :: s) i = if j = i then some x else St.get s i := rfl
theorem s_set0 {i : Nat} {y : Slot} : St.set [] i y = [(i, y)] := rfl
theorem s_setC {i j : Nat} {x y : Slot} {s : St} : St.set ((j, x) :: s) i y = if j = i then (i, y) :: s else if i < j then (i, y) :: (j, x) :: s else (j, x) :: St.set s i y := rfl
theorem s_upd0 : s.upd [] = s := rfl
theorem s_updC {i : Nat} {x : Slot} {u : Upd} : s.upd ((i, x) :: u) = (s.set i x).upd u := rfl
theorem s_drop0 {d : Nat} : St.drop [] d = [] := rfl
theorem s_dropL {d j : Nat} {x : Slot} {s : St} (h : j < 30000) : St.drop ((j, x) :: s) d = (j, x) :: St.drop s d := by
  unfold St.drop; rw [List.filter_cons, if_pos (by simp; omega)]
theorem s_dropG {d j : Nat} {x : Slot} {s : St} (h : 30000 ≤ j) : St.drop ((j, x) :: s) d = if (j - 30000) / 100 = d then St.drop s d else (j, x) :: St.drop s d := by
  unfold St.drop; rw [List.filter_cons]; by_cases e : (j - 30000) / 100 = d <;> simp [h, e]
theorem s_ver {i : Nat} : s.ver i = (bo (s.get i) fun x => some x.2).getD 0 := by unfold St.ver bo; cases s.get i <;> rfl
theorem s_nver {d : Nat} : nver s d = (bo (s.get d) fun x => some (x.2 + 1)).getD 0 := rfl
theorem s_getDs {a b : Nat} : (some a).getD b = a := rfl
theorem s_getDn {b : Nat} : (none : Option Nat).getD b = b := rfl
theorem new_eq {d : Nat} {t : Pv.T} : (s.new d t).2 = (t, nver s d) := by unfold St.new nver bo; cases s.get d <;> rfl
theorem s_ins0 {d : Nat} {t : Pv.T} : St.ins d t [] = [(d, t, 0)] := rfl
theorem s_insL {d j : Nat} {t : Pv.T} {x : Slot} {s : St} (h : j < d) : St.ins d t ((j, x) :: s) = (j, x) :: St.ins d t s := by
  simp only [St.ins]; rw [if_neg (by omega), if_neg (by omega)]
theorem s_insE {d : Nat} {t : Pv.T} {x : Slot} {s : St} : St.ins d t ((d, x) :: s) = (d, t, x.2 + 1) :: St.drop s d := by
  simp only [St.ins, if_true]
theorem s_insG {d j : Nat} {t : Pv.T} {x : Slot} {s : St} (h : d < j) (h2 : j < 30000) : St.ins d t ((j, x) :: s) = (d, t, nver s d) :: St.drop ((j, x) :: s) d := by
  simp only [St.ins]; rw [if_neg (by omega), if_pos h, if_pos h2]
theorem s_insH {d j : Nat} {t : Pv.T} {x : Slot} {s : St} (h : d < j) (h2 : 30000 ≤ j) : St.ins d t ((j, x) :: s) = St.set (St.drop ((j, x) :: s) d) d (t, nver s d) := by
  simp only [St.ins]; rw [if_neg (by omega), if_pos h, if_neg (by omega)]
theorem ins_eq {d : Nat} {t : Pv.T} (hd : d < 30000) : ∀ s : St, St.ins d t s = (s.drop d).set d (t, nver s d)
  | [] => rfl
  | (j, x) :: s => by
    have ih := ins_eq (t := t) hd s
    by_cases e : j = d
    · subst e
      rw [s_insE, s_dropL hd, s_setC, if_pos rfl]
      congr 1
      simp [nver, bo, St.get]
    · by_cases h : d < j
      · have hn : nver ((j, x) :: s) d = nver s d := by simp [nver, s_getC, e]
        rw [hn]
        have key : ∀ r : St, (∀ y, r.head? = some y → d < y.1) → r.set d (t, nver s d) = (d, t, nver s d) :: r := by
          intro r hr
          cases r with
          | nil => rfl
          | cons y r => obtain ⟨k, y⟩ := y; have := hr _ rfl; rw [s_setC, if_neg (by simp at this; omega), if_pos (by simpa using this)]
        by_cases hj : j < 30000
        · rw [s_insG h hj, key]
          rw [s_dropL hj]; intro y hy; simp at hy; subst hy; exact h
        · rw [s_insH h (by omega)]
      · have hj : j < d := by omega
        rw [s_insL hj, ih, s_dropL (by omega), s_setC, if_neg e, if_neg h]
        have hn : nver ((j, x) :: s) d = nver s d := by simp [nver, s_getC, e]
        rw [hn]
theorem s_put_one {d : Nat} {v : V} (hd : d < 30000) : putDst s (some d) (.one v) = St.ins d (.one v) s := by simp only [putDst, new_eq, ins_eq hd]
theorem s_put_agg {d : Nat} {v : List V} (hd : d < 30000) : putDst s (some d) (.agg v) = St.ins d (.agg v) s := by simp only [putDst, new_eq, ins_eq hd]
theorem s_put_al {d : Nat} {p : Pl} (hd : d < 30000) : putDst s (some d) (.al p) = St.ins d (.al p) s := by simp only [putDst, new_eq, ins_eq hd]
theorem s_put_ala {d : Nat} {p : Pl} {n : List V} (hd : d < 30000) : putDst s (some d) (.ala p n) = St.ins d (.ala p n) s := by simp only [putDst, new_eq, ins_eq hd]
theorem s_put_slb {d : Nat} {p : Pl} {a b : Nat} {c : Bool} (hd : d < 30000) : putDst s (some d) (.slb p a b c) = St.ins d (.slb p a b c) s := by simp only [putDst, new_eq, ins_eq hd]
theorem s_put_ad {d : Nat} {p : Pl} (hd : d < 30000) : putDst s (some d) (.ad p) = St.ins d (.ad p) s := by simp only [putDst, new_eq, ins_eq hd]
theorem s_put_rad {d : Nat} {r : List V} {o : Nat} (hd : d < 30000) : putDst s (some d) (.rad r o) = St.ins d (.rad r o) s := by simp only [putDst, new_eq, ins_eq hd]
theorem s_put_tup {d : Nat} {ts : List Pv.T} (hd : d < 30000) : putDst s (some d) (.tup ts) = putTup (St.ins d (.tup (ts.map fun _ => .one .dead)) s) d 0 ts := by simp only [putDst, new_eq, ins_eq hd]
theorem s_put_none {t : Pv.T} : putDst s none t = s := rfl
theorem s_putTup0 {d i : Nat} : putTup s d i [] = s := rfl
theorem s_putTupC {d i : Nat} {t : Pv.T} {ts : List Pv.T} : putTup s d i (t :: ts) = putTup (s.set (30000 + 100 * d + i) (t, 0)) d (i + 1) ts := rfl
theorem s_map0 {α β : Type} {f : α → β} : List.map f [] = [] := rfl
theorem s_mapC {α β : Type} {f : α → β} {a : α} {l : List α} : List.map f (a :: l) = f a :: List.map f l := rfl
theorem s_grdt {b : Bool} : grdT true (.one (.sc (.bool b))) = some b := by cases b <;> rfl
theorem s_grdf {b : Bool} : grdT false (.one (.sc (.bool b))) = some (!b) := by cases b <;> rfl
theorem s_grdu {b : Bool} : grdT b (.tup []) = some false := rfl
theorem s_sc {o : O} : s.sc o = bo (s.opv o) scT := by
  unfold St.sc bo; cases s.opv o with
  | none => rfl
  | some t => cases t <;> first | rfl | (rename_i v; cases v <;> rfl)
theorem s_int {o : O} : s.int o = bo (s.opv o) intT := by
  unfold St.int bo; cases s.opv o with
  | none => rfl
  | some t => cases t <;> first | rfl | (rename_i v; cases v <;> first | rfl | (rename_i v; cases v <;> rfl))
theorem s_scT {v : Value} : scT (.one (.sc v)) = some v := rfl
theorem s_intT {k : IntKind} {n : Int} : intT (.one (.sc (.int k n))) = some n := rfl
theorem s_slice {o : O} : s.slice o = bo (s.opv o) (sliceT s o) := by
  unfold St.slice
  cases h : s.opv o with
  | none => rfl
  | some t =>
    simp only [bo_some]
    cases t <;> try rfl
    case one v =>
      cases o <;> cases v <;> first | rfl | (rename_i l sz rows; cases l <;> rfl)
    case al p =>
      simp only [sliceT, bo]
      cases s.cell p with
      | none => rfl
      | some v => cases v <;> first | rfl | (rename_i l sz rows; cases l <;> rfl)
    case slb p lo hi c =>
      simp only [sliceT, bo]
      cases s.cell p with
      | none => rfl
      | some v => cases v <;> first | rfl | (rename_i l sz rows; cases l <;> rfl)
theorem s_slT {i : Nat} {v : V} : sliceT s (.t i) (.one v) = sliceV v (Pl.ofTmp s i) := rfl
theorem s_slC {x : Pv.T} {l : Lab} {sz : Nat} {rows : List (List V)} : sliceT s (.c x) (.one (.sl l sz rows)) = some ⟨none, sz, rows, l⟩ := rfl
theorem s_slA {o : O} {p : Pl} : sliceT s o (.al p) = bo (s.cell p) fun v => sliceV v p := rfl
theorem s_slB {o : O} {p : Pl} {lo hi : Nat} {c : Bool} : sliceT s o (.slb p lo hi c) = bo (s.cell p) fun v => sliceB v p lo hi c := rfl
theorem s_slV {l : Lab} {sz : Nat} {rows : List (List V)} {p : Pl} : sliceV (.sl l sz rows) p = if l = .own then some ⟨some (p, 0, false), sz, rows, .own⟩ else some ⟨none, sz, rows, l⟩ := rfl
theorem s_slVB {l : Lab} {sz lo hi : Nat} {c : Bool} {rows : List (List V)} {p : Pl} : sliceB (.sl l sz rows) p lo hi c = if l = .own then some ⟨some (p, lo, c), sz, (rows.drop lo).take (hi - lo), .own⟩ else if c then none else some ⟨none, sz, (rows.drop lo).take (hi - lo), l⟩ := rfl
theorem s_ofTmp {i : Nat} : Pl.ofTmp s i = ⟨i, 0, [], s.ver i⟩ := rfl
theorem s_place {p : Pl} : s.place p = bo (s.get p.r) fun x => req (x.2 = p.ver) (bo x.1.row? fun r => getRow r p.off p.path) := by
  unfold St.place bo
  cases s.get p.r with
  | none => rfl
  | some x => obtain ⟨t, v⟩ := x; simp only [req]; cases t <;> rfl
theorem s_cell {p : Pl} : s.cell p = bo (s.place p) fun x => x.1[x.2]? := by
  unfold St.cell bo
  cases s.place p <;> rfl
theorem s_cells {p : Pl} {n : Nat} : s.cells p n = bo (s.place p) fun x => req (x.2 + n ≤ x.1.length) (some ((x.1.drop x.2).take n)) := by
  unfold St.cells bo
  cases s.place p with
  | none => rfl
  | some x => obtain ⟨r, o⟩ := x; rfl
theorem s_rowOne {v : V} : T.row? (.one v) = some [v] := rfl
theorem s_rowAgg {r : List V} : T.row? (.agg r) = some r := rfl
theorem s_backOne {v w : V} : T.back (.one v) [w] = .one w := rfl
theorem s_backAgg {v w : List V} : T.back (.agg v) w = .agg w := by cases w <;> rfl
theorem s_gr0 {r : List V} {o : Nat} : getRow r o [] = some (r, o) := rfl
theorem s_grC {r : List V} {off i sz o : Nat} {p : List (Nat × Nat × Nat)} : getRow r off ((i, sz, o) :: p) = bo r[off]? fun v => grV v i sz o p := by
  unfold getRow bo grV
  cases r[off]? with
  | none => rfl
  | some v => cases v <;> first | rfl | (rename_i l sz rows; cases l <;> rfl)
theorem s_grV {i sz sz' o : Nat} {rows : List (List V)} {p : List (Nat × Nat × Nat)} : grV (.sl .own sz' rows) i sz o p = req (sz = sz') (bo rows[i]? fun r => getRow r o p) := by
  simp only [grV, bo, req]
  split
  · cases rows[i]? <;> rfl
  · rfl
theorem s_srt0 {row xs : List V} {off : Nat} : setRow row off [] xs = req (off + xs.length ≤ row.length) (some (splice row off xs)) := rfl
theorem s_srtC {r xs : List V} {off i sz o : Nat} {p : List (Nat × Nat × Nat)} : setRow r off ((i, sz, o) :: p) xs = bo r[off]? fun v => srV r off v i sz o p xs := by
  unfold setRow bo srV
  cases r[off]? with
  | none => rfl
  | some v => cases v <;> first | rfl | (rename_i l sz rows; cases l <;> rfl)
theorem s_srV {i sz sz' o off : Nat} {r xs : List V} {rows : List (List V)} {p : List (Nat × Nat × Nat)} : srV r off (.sl .own sz' rows) i sz o p xs = req (sz = sz') (bo rows[i]? fun q => bo (setRow q o p xs) fun q' => some (r.set off (.sl .own sz (rows.set i q')))) := by
  simp only [srV, bo, req]
  split
  · cases rows[i]? with
    | none => rfl
    | some x => simp only; cases setRow x o p xs <;> rfl
  · rfl
theorem s_splice {row xs : List V} {off : Nat} : splice row off xs = row.take off ++ xs ++ row.drop (off + xs.length) := rfl
theorem s_putP {p : Pl} {xs : List V} {b : Bool} : s.put p xs b = bo (s.get p.r) fun x => req (x.2 = p.ver) (bo x.1.row? fun r => bo (setRow r p.off p.path xs) fun r' => some [(p.r, x.1.back r', if b then x.2 + 1 else x.2)]) := by
  unfold St.put bo req
  cases s.get p.r with
  | none => rfl
  | some x =>
    obtain ⟨t, v⟩ := x
    cases t <;> first | rfl | (simp only [T.row?]; split <;> first | rfl | (cases setRow _ p.off p.path xs <;> rfl)) | (simp only [T.row?]; split <;> rfl)
theorem s_shift0 {r o v k : Nat} : shift ⟨r, o, [], v⟩ k = ⟨r, o + k, [], v⟩ := rfl
theorem s_shiftC {r o v k : Nat} {x : Nat × Nat × Nat} {p : List (Nat × Nat × Nat)} : shift ⟨r, o, x :: p, v⟩ k = ⟨r, o, shiftPath (x :: p) k, v⟩ := rfl
theorem s_sp1 {i sz o k : Nat} : shiftPath [(i, sz, o)] k = [(i, sz, o + k)] := rfl
theorem s_sp2 {x y : Nat × Nat × Nat} {q : List (Nat × Nat × Nat)} {k : Nat} : shiftPath (x :: y :: q) k = x :: shiftPath (y :: q) k := by obtain ⟨a, b, c⟩ := x; rfl
theorem s_noSc {v : Value} : (V.sc v).noOwn = true := rfl
theorem s_noSl {l : Lab} {sz : Nat} {rows : List (List V)} : (V.sl l sz rows).noOwn = decide (l ≠ .own) := by cases l <;> rfl
theorem s_noPtr' {r o : Nat} : (V.ptr r o).noOwn = true := rfl
theorem s_noClo {f : Nat} {a b : List V} : (V.clo f a b).noOwn = true := rfl
theorem s_noMr {r : Nat} : (V.mref r).noOwn = true := rfl
theorem s_noDead : V.dead.noOwn = false := rfl
theorem s_dSc {v : Value} : (V.sc v).isDead = false := rfl
theorem s_dSl {l : Lab} {sz : Nat} {rows : List (List V)} : (V.sl l sz rows).isDead = false := rfl
theorem s_dPtr {r o : Nat} : (V.ptr r o).isDead = false := rfl
theorem s_dClo {f : Nat} {a b : List V} : (V.clo f a b).isDead = false := rfl
theorem s_dMr {r : Nat} : (V.mref r).isDead = false := rfl
theorem s_dDead : V.dead.isDead = true := rfl
theorem s_iSc {v : Value} : (V.sc v).isSc = true := rfl
theorem s_iSl {l : Lab} {sz : Nat} {rows : List (List V)} : (V.sl l sz rows).isSc = false := rfl
theorem s_iPtr {r o : Nat} : (V.ptr r o).isSc = false := rfl
theorem s_pSc {v : Value} : (V.sc v).noPtr = true := rfl
theorem s_pSl {l : Lab} {sz : Nat} {rows : List (List V)} : (V.sl l sz rows).noPtr = true := rfl
theorem s_pPtr {r o : Nat} : (V.ptr r o).noPtr = false := rfl
theorem s_pDead : V.dead.noPtr = true := rfl
theorem s_mvSc {v : Value} {p : Pl} : mvV (.sc v) p = .one (.sc v) := rfl
theorem s_mvSl {l : Lab} {sz : Nat} {rows : List (List V)} {p : Pl} : mvV (.sl l sz rows) p = if l = .own then .al p else .one (.sl l sz rows) := by cases l <;> rfl
theorem s_mvPtr {r o : Nat} {p : Pl} : mvV (.ptr r o) p = .one (.ptr r o) := rfl
theorem s_mvClo {f : Nat} {a b : List V} {p : Pl} : mvV (.clo f a b) p = .one (.clo f a b) := rfl
theorem s_mvMr {r : Nat} {p : Pl} : mvV (.mref r) p = .one (.mref r) := rfl
theorem s_alSc {v : Value} {p : Pl} : alOf (.sc v) p = some (.one (.sc v)) := rfl
theorem s_alSl {l : Lab} {sz : Nat} {rows : List (List V)} {p : Pl} : alOf (.sl l sz rows) p = some (if l = .own then .al p else .one (.sl l sz rows)) := by cases l <;> rfl
theorem s_alPtr {r o : Nat} {p : Pl} : alOf (.ptr r o) p = some (.one (.ptr r o)) := rfl
theorem s_alClo {f : Nat} {a b : List V} {p : Pl} : alOf (.clo f a b) p = some (.one (.clo f a b)) := rfl
theorem s_alaOf {r : List V} {p : Pl} : alaOf r p = if r.all V.noOwn = true then .agg r else .ala p (r.map V.stub) := rfl
theorem s_stSc {v : Value} : (V.sc v).stub = .sc v := rfl
theorem s_stSl {l : Lab} {sz : Nat} {rows : List (List V)} : (V.sl l sz rows).stub = if l = .own then .sl .own sz [] else .sl l sz rows := by cases l <;> rfl
theorem s_stPtr {r o : Nat} : (V.ptr r o).stub = .ptr r o := rfl
theorem s_avSl {l : Lab} {sz : Nat} {rows : List (List V)} : (V.sl l sz rows).alv = .sl l sz rows := rfl
theorem s_mr0 {q : List V} : mergeRow [] q = [] := by cases q <;> rfl
theorem s_mrC {a b : V} {r q : List V} : mergeRow (a :: r) (b :: q) = (if a.noOwn = true then a else b.alv) :: mergeRow r q := rfl
theorem s_merge {p : Pl} {n : List V} : s.merge p n = bo (s.cells p n.length) fun r => some (mergeRow n r) := by unfold St.merge bo; cases s.cells p n.length <;> rfl
theorem s_lw0 {x q : List V} : lowWith [] x q = [] := rfl
theorem s_lwC {a x b : V} {r xs q : List V} : lowWith (a :: r) (x :: xs) (b :: q) = (if a.noOwn = true then (if b.noOwn = true then b else .dead) else x) :: lowWith r xs q := rfl
theorem s_deads {r : List V} : deads r = r.map fun _ => .dead := rfl
theorem s_roRow0 : roRow [] = [] := rfl
theorem s_roRowC {v : V} {r : List V} : roRow (v :: r) = v.ro :: roRow r := rfl
theorem s_roSc {v : Value} : (V.sc v).ro = .sc v := rfl
theorem s_roSl {l : Lab} {sz : Nat} {rows : List (List V)} : (V.sl l sz rows).ro = if l = .own then .sl .ro sz (roRows rows) else .sl l sz rows := by cases l <;> rfl
theorem s_roPtr {r o : Nat} : (V.ptr r o).ro = .ptr r o := rfl
theorem s_roRows0 : roRows [] = [] := rfl
theorem s_take {res : Bool} {o : O} : s.take cx res o = bo (s.opv o) (tkT s cx res o) := by
  unfold St.take
  cases h : s.opv o with
  | none => cases o <;> rfl
  | some t =>
    simp only [bo_some]
    cases t <;> try (cases o <;> rfl)
    case one v => cases o <;> first | rfl | (simp only [tkT, req]; cases v.isDead <;> simp)
    case agg r => cases o <;> first | rfl | (simp only [tkT, req]; cases r.any V.isDead <;> simp)
    case al p =>
      cases o <;> (simp only [tkT, bo]; cases s.cell p <;> rfl)
    case ala p n => cases o <;> (simp only [tkT, bo]; cases s.cells p n.length <;> rfl)
    case slb p lo hi c =>
      cases c with
      | true => cases o <;> rfl
      | false =>
        cases o <;> (simp only [tkT, bo]; cases s.cell p with
          | none => rfl
          | some v => cases v <;> first | rfl | (rename_i l sz rows; cases l <;> first | rfl | (simp only; cases s.put p [.dead] false <;> rfl)))
theorem s_tkOne {res : Bool} {i : Nat} {v : V} : tkT s cx res (.t i) (.one v) = s.takeAt cx res (Pl.ofTmp s i) [v] [v] false := rfl
theorem s_tkAgg {res : Bool} {i : Nat} {r : List V} : tkT s cx res (.t i) (.agg r) = s.takeAt cx res (Pl.ofTmp s i) r r true := rfl
theorem s_tkOneC {res : Bool} {x : Pv.T} {v : V} : tkT s cx res (.c x) (.one v) = req (v.isDead = false) (some ([v], false, [], [])) := rfl
theorem s_tkAggC {res : Bool} {x : Pv.T} {r : List V} : tkT s cx res (.c x) (.agg r) = req (r.any V.isDead = false) (some (r, true, [], [])) := rfl
theorem s_tkAl {res : Bool} {o : O} {p : Pl} : tkT s cx res o (.al p) = bo (s.cell p) fun v => s.takeAt cx res p [v.alv] [v] false := rfl
theorem s_tkAla {res : Bool} {o : O} {p : Pl} {n : List V} : tkT s cx res o (.ala p n) = bo (s.cells p n.length) fun q => s.takeAt cx res p (mergeRow n q) q true := rfl
theorem s_tkSlb {res : Bool} {o : O} {p : Pl} {lo hi : Nat} : tkT s cx res o (.slb p lo hi false) = bo (s.cell p) fun v => slbV s p lo hi v := by
  simp only [tkT]; congr 1
theorem s_slbV {p : Pl} {lo hi sz : Nat} {rows : List (List V)} : slbV s p lo hi (.sl .own sz rows) = bo (s.put p [.dead] false) fun u => some ([.sl .own sz ((rows.drop lo).take (hi - lo))], false, u, [(p.r, p.path.length)]) := rfl
theorem s_takeAt {res ag : Bool} {p : Pl} {r q : List V} : s.takeAt cx res p r q ag = req (r.any V.isDead = false) (if r.all V.noOwn = true then some (r, ag, [], []) else if cx.moves res p = true then bo (s.put p (lowWith r (deads r) q) false) fun u => some (r, ag, u, [(p.r, p.path.length)]) else bo (s.put p (lowWith r (roRow r) q) false) fun u => some (roRow r, ag, u, [(p.r, p.path.length)])) := by
  unfold St.takeAt req bo
  cases r.any V.isDead <;> simp only [Bool.false_eq_true, if_false, if_true, reduceCtorEq]
  split
  · rfl
  · split
    · cases s.put p (lowWith r (deads r) q) false <;> rfl
    · cases s.put p (lowWith r (roRow r) q) false <;> rfl
theorem s_mkT0 {v : V} : mkT [v] false = some (.one v) := rfl
theorem s_mkT1 {r : List V} : mkT r true = some (.agg r) := rfl
theorem s_movet {i : Nat} : W1 Tb cx s .move [.t i] q = andThen (bo (s.get i) fun x => mvT cx s i x.1) q := by
  show andThen (evIns noC cx s .move [.t i]) q = _
  congr 1
  simp only [evIns, St.opv, bo]
  cases s.get i with
  | none => rfl
  | some x =>
    obtain ⟨t, v⟩ := x
    cases t <;> try rfl
    case tup ts =>
      simp only [mvT, bo]
      split
      · rfl
      · cases takeTup cx i s 0 ts.length with
        | none => rfl
        | some y => obtain ⟨a, b, c⟩ := y; rfl
theorem s_movec {v : V} : W1 Tb cx s .move [.c (.one v)] q = q (.one v, s, []) := rfl
theorem s_moveca {v : List V} : W1 Tb cx s .move [.c (.agg v)] q = q (.agg v, s, []) := rfl
theorem s_mvOne {i : Nat} {v : V} : mvT cx s i (.one v) = some (mvV v (Pl.ofTmp s i), s, []) := rfl
theorem s_mvAgg {i : Nat} {r : List V} : mvT cx s i (.agg r) = some (alaOf r (Pl.ofTmp s i), s, []) := rfl
theorem s_mvAl {i : Nat} {p : Pl} : mvT cx s i (.al p) = some (.al p, s, []) := rfl
theorem s_mvAla {i : Nat} {p : Pl} {n : List V} : mvT cx s i (.ala p n) = some (.ala p n, s, []) := rfl
theorem s_mvSlb {i : Nat} {p : Pl} {a b : Nat} {c : Bool} : mvT cx s i (.slb p a b c) = some (.slb p a b c, s, []) := rfl
theorem s_mvAd {i : Nat} {p : Pl} : mvT cx s i (.ad p) = some (.ad p, s, []) := rfl
theorem s_mvRad {i : Nat} {r : List V} {o : Nat} : mvT cx s i (.rad r o) = some (.rad r o, s, []) := rfl
theorem s_mvTup {i : Nat} {ts : List Pv.T} : mvT cx s i (.tup ts) = if 100 < ts.length then none else bo (takeTup cx i s 0 ts.length) fun x => some (.tup x.1, x.2.1, x.2.2) := rfl
theorem s_tt0 {d i : Nat} : takeTup cx d s i 0 = some ([], s, []) := rfl
theorem s_ttC {d i n : Nat} : takeTup cx d s i (n + 1) = bo (s.takePart cx d i) fun x => bo (takeTup cx d (s.upd x.2.1) (i + 1) n) fun y => some (x.1 :: y.1, y.2.1, x.2.2 ++ y.2.2) := by
  simp only [takeTup, bo]
  cases s.takePart cx d i with
  | none => rfl
  | some x =>
    obtain ⟨a, b, c⟩ := x
    simp only
    cases takeTup cx d (s.upd b) (i + 1) n with
    | none => rfl
    | some y => obtain ⟨a, b, c⟩ := y; rfl
theorem s_takePart {d i : Nat} : s.takePart cx d i = bo (s.get (30000 + 100 * d + i)) fun x => bo x.1.row? fun r => bo (s.takeAt cx true ⟨30000 + 100 * d + i, 0, [], x.2⟩ r r x.1.isAgg) fun y => bo (mkT y.1 y.2.1) fun t => some (t, y.2.2.1, y.2.2.2) := by
  simp only [St.takePart, bo, tupAt]
  cases s.get (30000 + 100 * d + i) with
  | none => rfl
  | some x =>
    obtain ⟨t, v⟩ := x
    simp only
    cases t.row? with
    | none => rfl
    | some r =>
      simp only
      cases s.takeAt cx true ⟨30000 + 100 * d + i, 0, [], v⟩ r r t.isAgg with
      | none => rfl
      | some y =>
        obtain ⟨a, b, c, e⟩ := y
        simp only
        cases mkT a b <;> rfl
theorem s_isAgg1 {v : V} : T.isAgg (.one v) = false := rfl
theorem s_isAgg2 {v : List V} : T.isAgg (.agg v) = true := rfl
theorem s_assign {res : Bool} {o : O} : W1 Tb cx s (.assign res) [o] q = andThen (bo (s.opv o) (asT s cx res o)) q := by
  show andThen (evIns noC cx s (.assign res) [o]) q = _
  congr 1
  simp only [evIns]
  cases h : s.opv o with
  | none => simp only [bo]; unfold St.take; cases o <;> simp [h]
  | some t =>
    simp only [bo]
    cases t <;> try rfl
    all_goals
      simp only [asT, bo]
      cases s.take cx res o with
      | none => rfl
      | some x => obtain ⟨a, b, c, d⟩ := x; simp only; cases mkT a b <;> rfl
theorem s_asOne {res : Bool} {o : O} {v : V} : asT s cx res o (.one v) = bo (s.take cx res o) fun x => bo (mkT x.1 x.2.1) fun t => some (t, s.upd x.2.2.1, x.2.2.2) := rfl
theorem s_asAgg {res : Bool} {o : O} {v : List V} : asT s cx res o (.agg v) = bo (s.take cx res o) fun x => bo (mkT x.1 x.2.1) fun t => some (t, s.upd x.2.2.1, x.2.2.2) := rfl
theorem s_asAl {res : Bool} {o : O} {p : Pl} : asT s cx res o (.al p) = bo (s.take cx res o) fun x => bo (mkT x.1 x.2.1) fun t => some (t, s.upd x.2.2.1, x.2.2.2) := rfl
theorem s_asAla {res : Bool} {o : O} {p : Pl} {n : List V} : asT s cx res o (.ala p n) = bo (s.take cx res o) fun x => bo (mkT x.1 x.2.1) fun t => some (t, s.upd x.2.2.1, x.2.2.2) := rfl
theorem s_asSlb {res : Bool} {o : O} {p : Pl} {a b : Nat} {c : Bool} : asT s cx res o (.slb p a b c) = bo (s.take cx res o) fun x => bo (mkT x.1 x.2.1) fun t => some (t, s.upd x.2.2.1, x.2.2.2) := rfl
theorem s_asAd {res : Bool} {o : O} {p : Pl} : asT s cx res o (.ad p) = some (.ad p, s, []) := rfl
theorem s_asRad {res : Bool} {o : O} {r : List V} {k : Nat} : asT s cx res o (.rad r k) = some (.rad r k, s, []) := rfl
theorem s_len {o : O} : W1 Tb cx s .len [o] q = andThen (bo (s.slice o) fun v => some (.one (.sc (.int .i64 v.rows.length)), s, [])) q := by
  show andThen (evIns noC cx s .len [o]) q = _
  congr 1; simp only [evIns, bo]; cases s.slice o <;> rfl
theorem s_bin {op : BinOp} {x y : O} : W1 Tb cx s (.bin op) [x, y] q = andThen (bo (s.sc x) fun a => bo (s.sc y) fun b => bo (binV op a b) fun v => some (.one (.sc v), s, [])) q := by
  show andThen (evIns noC cx s (.bin op) [x, y]) q = _
  congr 1; simp only [evIns, bo]; cases s.sc x <;> cases s.sc y <;> try rfl
  rename_i a b; simp only; cases binV op a b <;> rfl
theorem s_un {op : UnOp} {x : O} : W1 Tb cx s (.un op) [x] q = andThen (bo (s.sc x) fun a => bo (unV op a) fun v => some (.one (.sc v), s, [])) q := by
  show andThen (evIns noC cx s (.un op) [x]) q = _
  congr 1; simp only [evIns, bo]; cases s.sc x <;> try rfl
  rename_i a; simp only; cases unV op a <;> rfl
theorem s_conv {k : IntKind} {x : O} : W1 Tb cx s (.conv k) [x] q = andThen (bo (s.sc x) fun a => bo (convV k a) fun v => some (.one (.sc v), s, [])) q := by
  show andThen (evIns noC cx s (.conv k) [x]) q = _
  congr 1; simp only [evIns, bo]; cases s.sc x with
  | none => rfl
  | some v => cases v <;> rfl
theorem s_convV {k j : IntKind} {n : Int} : convV k (.int j n) = some (.int k (k.wrap n)) := rfl
theorem s_pick {c a b : O} : W1 Tb cx s .pick [c, a, b] q = andThen (bo (bo (s.sc c) boolV) fun v => if v = true then bo (s.sc a) fun v => some (.one (.sc v), s, []) else bo (s.sc b) fun v => some (.one (.sc v), s, [])) q := by
  show andThen (evIns noC cx s .pick [c, a, b]) q = _
  congr 1; simp only [evIns, bo]; cases s.sc c with
  | none => rfl
  | some v =>
    cases v <;> try rfl
    rename_i v
    cases v
    · simp only [boolV, Bool.false_eq_true, if_false]; cases s.sc b <;> rfl
    · simp only [boolV, if_true]; cases s.sc a <;> rfl
theorem s_box {b : Nat} {x : O} : W1 Tb cx s (.box b) [x] q = andThen (req (cx.boxBad b x = false) (bo (s.take cx true x) fun y => ifNone ((s.upd y.2.2.1).get b) (some (.one (.ptr b 0), (s.upd y.2.2.1).set b (.agg y.1, 0), (b, 0) :: y.2.2.2)))) q := by
  show andThen (evIns noC cx s (.box b) [x]) q = _
  congr 1; simp only [evIns, bo, req, ifNone]
  cases cx.boxBad b x <;> simp only [Bool.false_eq_true, if_false, if_true, reduceCtorEq]
  cases s.take cx true x with
  | none => rfl
  | some y => obtain ⟨a, c, d, e⟩ := y; simp only; cases (s.upd d).get b <;> rfl
theorem s_ifNone {α β : Type} {k : Option β} : ifNone (none : Option α) k = k := rfl
theorem s_alloc {b : Nat} {z : List V} : W1 Tb cx s (.alloc b z) [] q = andThen (req (cx.held b = false) (ifNone (s.get b) (some (.one (.ptr b 0), s.set b (.agg z, 0), [(b, 0)])))) q := by
  show andThen (evIns noC cx s (.alloc b z) []) q = _
  congr 1; simp only [evIns, req, ifNone]
  cases cx.held b <;> simp only [Bool.false_eq_true, if_false, if_true, reduceCtorEq]
  cases s.get b <;> rfl
theorem s_fld {off : Nat} {x : O} : W1 Tb cx s (.fld off) [x] q = andThen (bo (s.opv x) (fldT s off)) q := by
  show andThen (evIns noC cx s (.fld off) [x]) q = _
  congr 1; simp only [evIns, bo]; cases s.opv x with
  | none => rfl
  | some t => cases t <;> first | rfl | (rename_i v; cases v <;> rfl)
theorem s_fldP {off r o : Nat} : fldT s off (.one (.ptr r o)) = some (.one (.ptr r (o + off)), s, []) := rfl
theorem s_fldA {off : Nat} {p : Pl} : fldT s off (.ad p) = req ((s.place p).isSome = true) (some (.ad (shift p off), s, [])) := rfl
theorem s_fldR {off o : Nat} {r : List V} : fldT s off (.rad r o) = some (.rad r (o + off), s, []) := rfl
theorem s_nil {x : O} : W1 Tb cx s .nilchk [x] q = andThen (bo (s.opv x) (nilT s)) q := by
  show andThen (evIns noC cx s .nilchk [x]) q = _
  congr 1; simp only [evIns, bo]; cases s.opv x with
  | none => rfl
  | some t => cases t <;> first | rfl | (rename_i v; cases v <;> rfl)
theorem s_nilP {r o : Nat} : nilT s (.one (.ptr r o)) = some (.one (.ptr r o), s, []) := rfl
theorem s_nilF {f : Nat} {a b : List V} : nilT s (.one (.clo f a b)) = some (.one (.clo f a b), s, []) := rfl
theorem s_nilA {p : Pl} : nilT s (.ad p) = req ((s.place p).isSome = true) (some (.ad p, s, [])) := rfl
theorem s_nilR {r : List V} {o : Nat} : nilT s (.rad r o) = some (.rad r o, s, []) := rfl
theorem s_ida {sz : Nat} {x i : O} : W1 Tb cx s (.ida sz) [x, i] q = andThen (bo (s.int i) fun n => bo (s.slice x) fun v => req (sz = v.sz ∧ 0 ≤ n ∧ n < v.rows.length) (idaP s sz n v)) q := by
  show andThen (evIns noC cx s (.ida sz) [x, i]) q = _
  congr 1; simp only [evIns, bo]
  cases s.int i with
  | none => rfl
  | some n =>
    cases s.slice x with
    | none => rfl
    | some v =>
      simp only [req]
      split
      · simp only [idaP, bo]; cases v.p with
        | none => simp only; cases v.rows[n.toNat]? <;> rfl
        | some x => obtain ⟨p, lo, c⟩ := x; rfl
      · rfl
theorem s_idaP {sz lo : Nat} {n : Int} {p : Pl} {c : Bool} {z : Nat} {rows : List (List V)} {l : Lab} : idaP s sz n ⟨some (p, lo, c), z, rows, l⟩ = some (.ad ⟨p.r, p.off, p.path ++ [(lo + n.toNat, sz, 0)], p.ver⟩, s, []) := rfl
theorem s_idaR {sz : Nat} {n : Int} {z : Nat} {rows : List (List V)} {l : Lab} : idaP s sz n ⟨none, z, rows, l⟩ = bo rows[n.toNat]? fun r => some (.rad r 0, s, []) := rfl
theorem s_load {x : O} : W1 Tb cx s (.load none) [x] q = andThen (bo (s.opv x) (ldT s)) q := by
  show andThen (evIns noC cx s (.load none) [x]) q = _
  congr 1; simp only [evIns, bo]
  cases h : s.opv x with
  | none => simp only [addrPl, h]
  | some t =>
    cases t
    case rad r o => simp only [ldT, bo]; cases r[o]? <;> rfl
    case one v =>
      cases v <;> simp only [addrPl, h, ldT]
      rename_i r k
      simp only [ldP, bo]
      cases s.cell ⟨r, k, [], s.ver r⟩ with
      | none => rfl
      | some v => simp only; cases alOf v ⟨r, k, [], s.ver r⟩ <;> rfl
    case ad p =>
      simp only [addrPl, h, ldT, ldP, bo]
      cases s.cell p with
      | none => rfl
      | some v => simp only; cases alOf v p <;> rfl
    all_goals simp only [addrPl, h, ldT]
theorem s_ldR {r : List V} {o : Nat} : ldT s (.rad r o) = bo r[o]? fun v => some (.one v, s, []) := rfl
theorem s_ldPt {r k : Nat} : ldT s (.one (.ptr r k)) = ldP s ⟨r, k, [], s.ver r⟩ := rfl
theorem s_ldA {p : Pl} : ldT s (.ad p) = ldP s p := rfl
theorem s_ldP {p : Pl} : ldP s p = bo (s.cell p) fun v => bo (alOf v p) fun t => some (t, s, []) := rfl
theorem s_loadN {x : O} {n : Nat} : W1 Tb cx s (.load (some n)) [x] q = andThen (bo (s.opv x) (ldN s n)) q := by
  show andThen (evIns noC cx s (.load (some n)) [x]) q = _
  congr 1; simp only [evIns, bo]
  cases h : s.opv x with
  | none => simp only [addrPl, h]
  | some t =>
    cases t
    case rad r o => rfl
    case one v =>
      cases v <;> simp only [addrPl, h, ldN]
      rename_i r k
      simp only [bo]
      cases s.cells ⟨r, k, [], s.ver r⟩ n <;> rfl
    case ad p =>
      simp only [addrPl, h, ldN, bo]
      cases s.cells p n <;> rfl
    all_goals simp only [addrPl, h, ldN]
theorem s_lnR {r : List V} {o n : Nat} : ldN s n (.rad r o) = req (o + n ≤ r.length) (some (.agg ((r.drop o).take n), s, [])) := rfl
theorem s_lnP {r k n : Nat} : ldN s n (.one (.ptr r k)) = bo (s.cells ⟨r, k, [], s.ver r⟩ n) fun x => some (alaOf x ⟨r, k, [], s.ver r⟩, s, []) := rfl
theorem s_lnA {p : Pl} {n : Nat} : ldN s n (.ad p) = bo (s.cells p n) fun x => some (alaOf x p, s, []) := rfl
theorem s_addr {o : O} : addrPl s o = bo (s.opv o) (adT s) := by
  unfold addrPl bo
  cases s.opv o with
  | none => rfl
  | some t => cases t <;> first | rfl | (rename_i v; cases v <;> rfl)
theorem s_adP {r k : Nat} : adT s (.one (.ptr r k)) = some ⟨r, k, [], s.ver r⟩ := rfl
theorem s_adA {p : Pl} : adT s (.ad p) = some p := rfl
theorem s_store {res : Bool} {n : Nat} {a x : O} : W1 Tb cx s (.store res n) [a, x] q = andThen (bo (s.take cx res x) fun y => bo (addrPl (s.upd y.2.2.1) a) fun p =>
    req (y.1.length = n ∧ (p.path.isEmpty && cx.held p.r) = false ∧ (!p.path.isEmpty && !y.1.all V.noPtr) = false) (bo ((s.upd y.2.2.1).cells p n) fun old => bo ((s.upd y.2.2.1).put p y.1 (!(y.1.all V.isSc && old.all V.isSc))) fun u2 => some (.one .dead, (s.upd y.2.2.1).upd u2, y.2.2.2 ++ [(p.r, 0)]))) q := by
  show andThen (evIns noC cx s (.store res n) [a, x]) q = _
  congr 1; simp only [evIns, bo]
  cases s.take cx res x with
  | none => rfl
  | some y =>
    obtain ⟨r, ag, u, m⟩ := y
    simp only
    cases addrPl (s.upd u) a with
    | none => rfl
    | some p =>
      simp only [req]
      by_cases h1 : r.length = n
      · simp only [h1, ne_eq, not_true, if_false, true_and]
        cases h2 : (p.path.isEmpty && cx.held p.r) <;> simp only [Bool.false_eq_true, if_false, if_true, reduceCtorEq, false_and, true_and]
        cases h3 : (!p.path.isEmpty && !r.all V.noPtr) <;> simp only [Bool.false_eq_true, if_false, if_true, reduceCtorEq]
        cases (s.upd u).cells p n with
        | none => rfl
        | some old => simp only; cases (s.upd u).put p r (!(r.all V.isSc && old.all V.isSc)) <;> rfl
      · simp [h1]
theorem s_fieldV {off : Nat} {x : O} : W1 Tb cx s (.fieldV off none) [x] q = andThen (bo (s.opv x) (fvT s off x)) q := by
  show andThen (evIns noC cx s (.fieldV off none) [x]) q = _
  congr 1; simp only [evIns, bo]
  cases h : s.opv x with
  | none => cases x <;> rfl
  | some t =>
    cases t <;> cases x <;> try rfl
    · rename_i r i
      simp only [fvT, bo]
      cases r[off]? with
      | none => rfl
      | some v => simp only; cases alOf v { Pl.ofTmp s i with off := off } <;> rfl
    · rename_i p m i
      simp only [fvT, bo]
      cases m[off]? with
      | none => rfl
      | some v => simp only; cases alOf v (shift p off) <;> rfl
    · rename_i p m i
      simp only [fvT, bo]
      cases m[off]? with
      | none => rfl
      | some v => simp only; cases alOf v (shift p off) <;> rfl
theorem s_fvA {off i : Nat} {r : List V} : fvT s off (.t i) (.agg r) = bo r[off]? fun v => bo (alOf v ⟨i, off, [], s.ver i⟩) fun t => some (t, s, []) := rfl
theorem s_fvB {off : Nat} {o : O} {p : Pl} {m : List V} : fvT s off o (.ala p m) = bo m[off]? fun v => bo (alOf v (shift p off)) fun t => some (t, s, []) := by cases o <;> rfl
theorem s_lookA {o : O} : s.lookA o = bo (s.opv o) (lookT s) := by
  unfold St.lookA bo
  cases s.opv o with
  | none => rfl
  | some t => cases t <;> rfl
theorem s_lkA {r : List V} : lookT s (.agg r) = some r := rfl
theorem s_lkB {p : Pl} {n : List V} : lookT s (.ala p n) = s.merge p n := rfl
theorem s_eq {neg : Bool} {ks : List Bool} {x y : O} : W1 Tb cx s (.eq neg ks) [x, y] q = andThen (bo (s.lookA x) fun a => bo (s.lookA y) fun b => bo (eqRowK ks a b) fun t => some (.one (.sc (.bool (if neg then !t else t))), s, [])) q := by
  show andThen (evIns noC cx s (.eq neg ks) [x, y]) q = _
  congr 1; simp only [evIns, bo]; cases s.lookA x <;> cases s.lookA y <;> try rfl
  rename_i a b; simp only; cases eqRowK ks a b <;> rfl
theorem s_takeL0 : takeL s cx [] = some ([], s, []) := rfl
theorem s_takeLC {o : O} {os : List O} : takeL s cx (o :: os) = bo (s.take cx false o) fun x => bo (takeL (s.upd x.2.2.1) cx os) fun y => some (x.1 :: y.1, y.2.1, x.2.2.2 ++ y.2.2) := by
  simp only [takeL, bo]
  cases s.take cx false o with
  | none => rfl
  | some x =>
    obtain ⟨a, b, c, d⟩ := x
    simp only
    cases takeL (s.upd c) cx os with
    | none => rfl
    | some y => obtain ⟨a, b, c⟩ := y; rfl
theorem s_build {z : List V} {ps : List (Nat × Nat)} {xs : List O} : W1 Tb cx s (.build z ps) xs q = andThen (bo (takeL s cx xs) fun x => bo (buildRow z ps x.1) fun r => some (.agg r, x.2.1, x.2.2)) q := by
  show andThen (evIns noC cx s (.build z ps) xs) q = _
  congr 1; simp only [evIns, bo]; cases takeL s cx xs with
  | none => rfl
  | some x => obtain ⟨a, b, c⟩ := x; simp only; cases buildRow z ps a <;> rfl
theorem s_br0 {z : List V} : buildRow z [] [] = some z := rfl
theorem s_brC {z r : List V} {off n : Nat} {ps : List (Nat × Nat)} {rs : List (List V)} : buildRow z ((off, n) :: ps) (r :: rs) = req (r.length = n ∧ off + n ≤ z.length) (buildRow (splice z off r) ps rs) := rfl
theorem s_bsl {sz len : Nat} {z : List V} {ps : List Nat} {xs : List O} : W1 Tb cx s (.bsl sz z len ps) xs q = andThen (bo (takeL s cx xs) fun x => req ((x.1.all (fun r => decide (r.length = sz) && r.all V.noPtr) && decide (z.length = sz)) = true) (bo (buildRows (List.replicate len z) ps x.1) fun r => some (.one (.sl .own sz r), x.2.1, x.2.2))) q := by
  show andThen (evIns noC cx s (.bsl sz z len ps) xs) q = _
  congr 1; simp only [evIns, bo, req]; cases takeL s cx xs with
  | none => rfl
  | some x =>
    obtain ⟨a, b, c⟩ := x
    simp only
    split
    · cases buildRows (List.replicate len z) ps a <;> rfl
    · rfl
theorem s_brs0 {z : List (List V)} : buildRows z [] [] = some z := rfl
theorem s_brsC {z : List (List V)} {i : Nat} {is : List Nat} {r : List V} {rs : List (List V)} : buildRows z (i :: is) (r :: rs) = req (i < z.length) (buildRows (z.set i r) is rs) := rfl
theorem s_mks {sz bytes : Nat} {z : List V} {n m : O} : W1 Tb cx s (.mks sz z bytes) [n, m] q = andThen (bo (s.int n) fun a => bo (s.int m) fun b => req (a = b ∧ 0 ≤ a ∧ a * bytes ≤ 2 ^ 47 ∧ z.length = sz) (some (.one (.sl .own sz (List.replicate a.toNat z)), s, []))) q := by
  show andThen (evIns noC cx s (.mks sz z bytes) [n, m]) q = _
  congr 1; simp only [evIns, bo]; cases s.int n <;> cases s.int m <;> rfl
theorem s_ext {i j : Nat} : W1 Tb cx s (.ext i) [.t j] q = andThen (bo (s.takePart cx j i) fun x => some (x.1, s.upd x.2.1, x.2.2)) q := by
  show andThen (evIns noC cx s (.ext i) [.t j]) q = _
  congr 1; simp only [evIns, bo]; cases s.takePart cx j i with
  | none => rfl
  | some x => obtain ⟨a, b, c⟩ := x; rfl
def appIn (s : St) (cx : Cx) (vy : Sv) : Option (St × List (Nat × Nat)) := if vy.rows.all (fun r => r.all V.noOwn) = true then some (s, []) else appMv s cx vy.p
def appOut (s1 : St) (m1 : List (Nat × Nat)) (sz : Nat) (rows : List (List V)) (x : O) (vx : Sv) : Option (Pv.T × St × List (Nat × Nat)) := match vx.p, x with
  | some (p, _, _), _ => bo (s1.put p [.dead] false) fun u => some (.one (.sl .own sz (vx.rows ++ rows)), s1.upd u, (p.r, p.path.length) :: m1)
  | none, .c _ => some (.one (.sl .own sz (vx.rows ++ rows)), s1, m1)
  | none, .t _ => none
theorem s_app {sz bytes : Nat} {x y : O} : W1 Tb cx s (.app sz bytes) [x, y] q = andThen (bo (s.slice y) fun vy => req (sz = vy.sz ∧ (vy.rows.any fun r => r.any V.isDead) = false) (bo (appIn s cx vy) fun s1 => bo (s1.1.slice x) fun vx => req (sz = vx.sz ∧ (vx.rows.length + vy.rows.length) * bytes ≤ 2 ^ 47) (appOut s1.1 s1.2 sz vy.rows x vx))) q := by
  show andThen (evIns noC cx s (.app sz bytes) [x, y]) q = _
  congr 1; simp only [evIns, bo]
  cases s.slice y with
  | none => rfl
  | some vy =>
    simp only [req]
    by_cases h1 : sz = vy.sz
    · cases h2 : (vy.rows.any fun r => r.any V.isDead) with
      | true => simp [h1]
      | false =>
        simp only [h1, ne_eq, not_true, Bool.false_eq_true, or_self, if_false, and_self, if_true]
        obtain ⟨vp, vz, vrows, vl⟩ := vy
        simp only [appIn] at *
        cases hA : (vrows.all fun r => r.all V.noOwn) with
        | true =>
          simp only [if_true]
          cases s.slice x with
          | none => rfl
          | some vx =>
            obtain ⟨pp, z, rr, ll⟩ := vx
            simp only
            by_cases h3 : vz = z
            · by_cases h4 : (rr.length + vrows.length) * bytes ≤ 2 ^ 47
              · rw [if_neg (by omega), if_pos ⟨h3, h4⟩]
                cases pp with
                | some y =>
                  obtain ⟨p2, a, b⟩ := y
                  simp only [appOut, bo]
                  cases (s).put p2 [.dead] false <;> rfl
                | none => cases x <;> rfl
              · rw [if_pos (by omega), if_neg (by omega)]
            · rw [if_pos (.inl h3), if_neg (by omega)]
        | false =>
          simp only [Bool.false_eq_true, if_false]
          rcases vp with _ | ⟨p, lo, c⟩
          · rfl
          · cases lo with
            | succ n => rfl
            | zero =>
              cases c with
              | true => rfl
              | false =>
                simp only [appMv]
                cases cx.moves false p with
                | false => rfl
                | true =>
                  simp only [if_true]
                  cases s.put p [.dead] false with
                  | none => rfl
                  | some u =>
                    simp only
                    cases (s.upd u).slice x with
                    | none => rfl
                    | some vx =>
                      obtain ⟨pp, z, rr, ll⟩ := vx
                      simp only
                      by_cases h3 : vz = z
                      · by_cases h4 : (rr.length + vrows.length) * bytes ≤ 2 ^ 47
                        · rw [if_neg (by omega), if_pos ⟨h3, h4⟩]
                          cases pp with
                          | some y =>
                            obtain ⟨p2, a, b⟩ := y
                            simp only [appOut, bo]
                            cases ((s.upd u)).put p2 [.dead] false <;> rfl
                          | none => cases x <;> rfl
                        · rw [if_pos (by omega), if_neg (by omega)]
                      · rw [if_pos (.inl h3), if_neg (by omega)]
    · rw [if_pos (.inl h1), if_neg (by simp [h1])]
theorem s_appIn {vy : Sv} : appIn s cx vy = if vy.rows.all (fun r => r.all V.noOwn) = true then some (s, []) else appMv s cx vy.p := rfl
theorem s_appMv {p : Pl} : appMv s cx (some (p, 0, false)) = if cx.moves false p = true then bo (s.put p [.dead] false) fun u => some (s.upd u, [(p.r, p.path.length)]) else none := by
  unfold appMv bo
  simp only
  split
  · cases s.put p [.dead] false <;> rfl
  · rfl
theorem s_appO1 {s1 : St} {m1 : List (Nat × Nat)} {sz z lo : Nat} {rows r2 : List (List V)} {x : O} {p : Pl} {c : Bool} {l : Lab} : appOut s1 m1 sz rows x ⟨some (p, lo, c), z, r2, l⟩ = bo (s1.put p [.dead] false) fun u => some (.one (.sl .own sz (r2 ++ rows)), s1.upd u, (p.r, p.path.length) :: m1) := rfl
theorem s_appO2 {s1 : St} {m1 : List (Nat × Nat)} {sz z : Nat} {rows r2 : List (List V)} {x : Pv.T} {l : Lab} : appOut s1 m1 sz rows (.c x) ⟨none, z, r2, l⟩ = some (.one (.sl .own sz (r2 ++ rows)), s1, m1) := rfl
theorem s_slc {sz : Nat} {lo hi mx : Bool} {x : O} {bs : List O} : W1 Tb cx s (.slc sz lo hi mx) (x :: bs) q = andThen (bo (s.slice x) fun v => bo (bs.mapM s.int) fun is => slcOf s sz lo hi mx v is) q := by
  show andThen (evIns noC cx s (.slc sz lo hi mx) (x :: bs)) q = _
  congr 1; simp only [evIns, bo]; cases s.slice x with
  | none => rfl
  | some v => cases bs.mapM s.int <;> rfl
theorem s_mkf {f n : Nat} {xs : List O} : W1 Tb cx s (.mkf f n) xs q = andThen (bo (xs.mapM (mkfT s)) fun vs => some (.one (.clo f (vs.take n) (vs.drop n)), s, [])) q := by
  show andThen (evIns noC cx s (.mkf f n) xs) q = _
  congr 1
  show (match xs.mapM (mkfT s) with
    | some vs => some (T.one (.clo f (vs.take n) (vs.drop n)), s, [])
    | none => none) = _
  cases xs.mapM (mkfT s) <;> rfl
theorem s_binB {neg : Bool} {x y : O} : W1 Tb cx s (.binB neg) [x, y] q = andThen (bo (bo (s.sc x) boolV) fun a => bo (bo (s.sc y) boolV) fun b => some (.one (.sc (.bool (if neg then !decide (a = b) else decide (a = b)))), s, [])) q := by
  show andThen (evIns noC cx s (.binB neg) [x, y]) q = _
  congr 1; simp only [evIns, bo]
  cases s.sc x with
  | none => rfl
  | some a =>
    cases s.sc y with
    | none => cases a <;> rfl
    | some b =>
      cases a <;> try rfl
      cases b <;> try rfl
theorem s_mm0 {α β : Type} {f : α → Option β} : List.mapM f [] = some [] := rfl
theorem s_mmC {α β : Type} {f : α → Option β} {a : α} {l : List α} : List.mapM f (a :: l) = bo (f a) fun x => bo (List.mapM f l) fun y => some (x :: y) := by
  simp only [List.mapM_cons, bo]; cases f a with
  | none => rfl
  | some x => simp only [Option.bind_eq_bind, Option.bind_some]; cases List.mapM f l <;> rfl
theorem s_slcOf {sz : Nat} {lo hi : Bool} {v : Sv} {is : List Int} : slcOf s sz lo hi false v is = slcG s sz v (if lo = true then is[0]?.getD 0 else 0) (if hi = true then is[if lo = true then 1 else 0]?.getD 0 else (v.rows.length : Int)) := by
  unfold slcOf slcG
  simp only [List.getD, Bool.false_and, Bool.false_eq_true, if_false]
theorem s_slcG {sz : Nat} {v : Sv} {l h : Int} : slcG s sz v l h = req (v.sz = sz) (req (0 ≤ l ∧ l ≤ h ∧ h ≤ v.rows.length) (slcP s v l h)) := by
  unfold slcG req slcP
  by_cases e : v.sz = sz
  · simp only [e, ne_eq, not_true, if_false, if_true]
  · simp [e]
theorem s_slcP1 {p : Pl} {l h : Int} {z : Nat} {rows : List (List V)} {lb : Lab} : slcP s ⟨some (p, 0, false), z, rows, lb⟩ l h = some (.slb p l.toNat h.toNat false, s, []) := rfl
theorem s_slcP2 {l h : Int} {z : Nat} {rows : List (List V)} {lb : Lab} : slcP s ⟨none, z, rows, lb⟩ l h = some (.one (.sl lb.inner z ((rows.drop l.toNat).take (h.toNat - l.toNat))), s, []) := rfl
theorem s_inR : Lab.inner .ro = .ro := rfl
theorem s_inL {t : Nat} : Lab.inner (.lent t) = .part t := rfl
theorem s_inP {t : Nat} : Lab.inner (.part t) = .part t := rfl
theorem s_gi {a b : Int} : (some a).getD b = a := rfl
theorem s_mkfP {i r o v : Nat} (h : s.get i = some (.one (.ptr r o), v)) : mkfT s (.t i) = some (.ptr r o) := by simp [mkfT, St.opv, h]
theorem s_mkf1 {o : O} : mkfT s o = bo (s.opv o) mkfV := by
  unfold mkfT bo
  cases s.opv o with
  | none => rfl
  | some t => cases t <;> first | rfl | (rename_i v; cases v <;> rfl)
theorem s_mkfV1 {r o : Nat} : mkfV (.one (.ptr r o)) = some (.ptr r o) := rfl
theorem s_mkfV2 {v : Value} : mkfV (.one (.sc v)) = some (.sc v) := rfl
theorem s_fieldN {off n : Nat} {x : O} : W1 Tb cx s (.fieldV off (some n)) [x] q = andThen (bo (s.opv x) (fvN s off n x)) q := by
  show andThen (evIns noC cx s (.fieldV off (some n)) [x]) q = _
  congr 1; simp only [evIns, bo]
  cases h : s.opv x with
  | none => cases x <;> rfl
  | some t => cases t <;> cases x <;> rfl
theorem s_fnA {off n i : Nat} {r : List V} : fvN s off n (.t i) (.agg r) = req (off + n ≤ r.length) (some (alaOf ((r.drop off).take n) ⟨i, off, [], s.ver i⟩, s, [])) := rfl
theorem s_fnB {off n : Nat} {o : O} {p : Pl} {m : List V} : fvN s off n o (.ala p m) = req (off + n ≤ m.length) (some (alaOf ((m.drop off).take n) (shift p off), s, [])) := by cases o <;> rfl
theorem s_mx {x y : O} : W1 Tb cx s .mx [x, y] q = andThen (bo (bo (s.sc x) i64V) fun a => bo (bo (s.sc y) i64V) fun b => some (.one (.sc (.int .i64 (if b > a then b else a))), s, [])) q := by
  show andThen (evIns noC cx s .mx [x, y]) q = _
  congr 1; simp only [evIns, bo]
  cases s.sc x with
  | none => rfl
  | some a =>
    cases s.sc y with
    | none => cases a <;> first | rfl | (rename_i k n; cases k <;> rfl)
    | some b =>
      cases a <;> first | rfl | (rename_i k n; cases k <;> first | rfl | (cases b <;> first | rfl | (rename_i k n; cases k <;> rfl)))
theorem s_mn {x y : O} : W1 Tb cx s .mn [x, y] q = andThen (bo (bo (s.sc x) i64V) fun a => bo (bo (s.sc y) i64V) fun b => some (.one (.sc (.int .i64 (if b < a then b else a))), s, [])) q := by
  show andThen (evIns noC cx s .mn [x, y]) q = _
  congr 1; simp only [evIns, bo]
  cases s.sc x with
  | none => rfl
  | some a =>
    cases s.sc y with
    | none => cases a <;> first | rfl | (rename_i k n; cases k <;> rfl)
    | some b =>
      cases a <;> first | rfl | (rename_i k n; cases k <;> first | rfl | (cases b <;> first | rfl | (rename_i k n; cases k <;> rfl)))
theorem s_i64V {n : Int} : i64V (.int .i64 n) = some n := rfl
theorem s_lenC {n : Nat} {x : O} : W1 Tb cx s (.lenC n) [x] q = q (.one (.sc (.int .i64 n)), s, []) := rfl
end
end Pv
