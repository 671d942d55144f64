
import Derived.Test.YtkgdfkhhaankkaaPvAD
set_option linter.all false
set_option linter.unusedVariables false
namespace Pv
open Go
def handT (s : St) (o : O) : T → Option (List V × Bool × Option Pl)
  | .one v => (match o with
    | .t i => some ([v], false, some (Pl.ofTmp s i))
    | .c _ => some ([v.ro], false, none))
  | .agg r => (match o with
    | .t i => some (r, true, some (Pl.ofTmp s i))
    | .c _ => some (roRow r, true, none))
  | .al p => bo (s.cell p) fun v => some ([v.alv], false, some p)
  | .ala p n => bo (s.merge p n) fun r => some (r, true, some p)
  | _ => none
def ioHand (t : Option T) : List V × Bool × Option Pl := match t with
  | some (.ala _ _) => ([], true, none)
  | _ => ([V.dead], false, none)
def callIn3 (cx : Cx) (s : St) (io : List Nat) (b g : Nat) (hs : List (List V × Bool × Option Pl)) (ios : List (Nat × List V)) (m : Nat) (all : List T) (boxes : List Nat) : Option CIn :=
  bo (rowsOf s boxes) fun rows =>
        if (((lentRoots hs).any (fun r => boxes.contains r || (ios.map fun x => x.1).contains r) || (ios.map fun x => x.1).any boxes.contains || !decide (ios.map fun x => x.1).Nodup || !decide boxes.Nodup || decide (1000 < boxes.length) || boxes.any cx.held || (ios.map fun x => x.1).any cx.held || cx.held b || !ios.all (fun x => x.2.all V.noPtr) || !decide io.Nodup)
          || !((all.flatMap ptrsT ++ rows.flatMap ptrRow).all boxes.contains)) = true then none else
          some ⟨g, all.map (T.ren (intoBox boxes)), (rows.map fun r => (mapLRow (Lab.up m) r).map (V.ren (intoBox boxes))) ++ (ios.map fun x => (mapLRow (Lab.up m) x.2).map (V.ren (intoBox boxes))), hs, ios, boxes, m⟩
def callIn2 (cx : Cx) (s : St) (io : List Nat) (b g : Nat) (caps : List V) (hs : List (List V × Bool × Option Pl)) (ios : List (Nat × List V)) (m : Nat) : Option CIn :=
  bo (viewAll m 0 hs) fun args => callIn3 cx s io b g hs ios m (args ++ caps.map T.one) (reach s 100 ((args ++ caps.map T.one).flatMap ptrsT) [])
def cloT : T → Option (Nat × List V)
  | .one (.clo g [] caps) => some (g, caps)
  | _ => none
def reachO (s : St) (n r : Nat) (todo acc : List Nat) (o : Option (List V)) : List Nat := match o with
  | some row => reach s n (todo ++ row.flatMap ptrsV) (acc ++ [r])
  | none => reach s n todo acc
def boxT (r : Nat) : T → Option (List V)
  | .mp r' ka va ks vs => if r = r' ∧ 600000 ≤ r then some [.mp ka va ks vs] else none
  | .agg row => if 5000 ≤ r ∧ r < 30000 then some row else none
  | _ => none
def lrP : Option Pl → List Nat
  | some p => [p.r]
  | none => [0]
def ltP : Option Pl → List (Nat × Nat)
  | some p => [(p.r, p.path.length)]
  | none => []
def toT (s : St) : T → Option (Nat × List V)
  | .al p => (match s.whole p with
    | some [v] => some (p.r, [v.alv])
    | _ => none)
  | .ala p n => (match s.whole p with
    | some r => if r.length = n.length then some (p.r, mergeRow n r) else none
    | none => none)
  | _ => none
def idx (boxes : List Nat) (r : Nat) : Nat := boxes.idxOf r
def newBox (s : St) (b : Nat) (rows : List (List V)) (f : List V → List V) : Option (St × List (Nat × Nat)) := match rows with
  | [] => some (s, [])
  | [row] => (match s.get b with
    | some _ => none
    | none => some (s.set b (.agg (f row), 0), [(b, 0)]))
  | _ => none
def top1 : T → List V
  | .one v => [v]
  | .agg r => r
  | _ => []
def home1 (m : Nat) (b : List (Nat × V)) (f : Nat → Nat) : T → T
  | .one v => .one (homeV m b f v)
  | .agg r => .agg (r.map (homeV m b f))
  | t => t
def argAg (o : Option T) (b : Bool) : Bool := match o with
  | some (.agg _) => b
  | some (.one _) => !b
  | _ => false
def ptrPl (s : St) : T → Option Pl
  | .one (.ptr r k) => some ⟨r, k, [], s.ver r⟩
  | _ => none
def resRow (s : St) (p : Pl) (n : Option Nat) : Option (List V) := match n with
  | none => bo (s.cell p) fun v => some [v]
  | some n => s.cells p n
def isMp : List V → Bool
  | [.mp ..] => true
  | _ => false
section
variable {Tb : Nat → Option Fn} {s : St} {cx : Cx} {q : Pv.T × St × List (Nat × Nat) → Prop}
theorem c_call {io : List Nat} {b : Nat} {mv : Bool} {f : O} {as : List O} : W1 Tb cx s (.call io b mv) (f :: as) q = CallK Tb cx s io b mv f as q := rfl
theorem c_callK {io : List Nat} {b : Nat} {mv : Bool} {f : O} {as : List O} : CallK Tb cx s io b mv f as q = andThen (callIn cx s io b f as) fun c => CallF Tb c.g io c.args c.ext fun r => andThen (evBack s b mv c.hs c.ios c.boxes c.m r.1 r.2) q := rfl
def callIn1 (cx : Cx) (s : St) (io : List Nat) (b : Nat) (g : Nat) (caps : List V) (as : List O) : Option CIn :=
  bo (handAll s io 0 as) fun hs => bo (takeIo s as io) fun ios => callIn2 cx s io b g caps hs ios (hs.map fun h => nOwn h.1).sum
theorem c_in {io : List Nat} {b : Nat} {f : O} {as : List O} : callIn cx s io b f as = bo (s.opv f) fun t => bo (cloT t) fun x => callIn1 cx s io b x.1 x.2 as := by
  unfold callIn
  cases s.opv f with
  | none => rfl
  | some t =>
    simp only [bo_some]
    split
    · rfl
    · rename_i h
      cases t <;> try rfl
      rename_i v
      cases v <;> try rfl
      rename_i g a c
      cases a with
      | nil => exact absurd rfl (h g c)
      | cons x xs => rfl
theorem c_cloT {g : Nat} {caps : List V} : cloT (.one (.clo g [] caps)) = some (g, caps) := rfl
theorem c_in1 {io : List Nat} {b g : Nat} {caps : List V} {as : List O} : callIn1 cx s io b g caps as = bo (handAll s io 0 as) fun hs => bo (takeIo s as io) fun ios => callIn2 cx s io b g caps hs ios (hs.map fun h => nOwn h.1).sum := rfl
theorem c_in2 {io : List Nat} {b g m : Nat} {caps : List V} {hs : List (List V × Bool × Option Pl)} {ios : List (Nat × List V)} : callIn2 cx s io b g caps hs ios m = bo (viewAll m 0 hs) fun args => callIn3 cx s io b g hs ios m (args ++ caps.map T.one) (reach s 100 ((args ++ caps.map T.one).flatMap ptrsT) []) := by
  simp only [callIn2, callIn3]
theorem c_in3 {io : List Nat} {b g m : Nat} {hs : List (List V × Bool × Option Pl)} {ios : List (Nat × List V)} {all : List Pv.T} {boxes : List Nat} : callIn3 cx s io b g hs ios m all boxes = bo (rowsOf s boxes) fun rows =>
        if (((lentRoots hs).any (fun r => boxes.contains r || (ios.map fun x => x.1).contains r) || (ios.map fun x => x.1).any boxes.contains || !decide (ios.map fun x => x.1).Nodup || !decide boxes.Nodup || decide (1000 < boxes.length) || boxes.any cx.held || (ios.map fun x => x.1).any cx.held || cx.held b || !ios.all (fun x => x.2.all V.noPtr) || !decide io.Nodup)
          || !((all.flatMap ptrsT ++ rows.flatMap ptrRow).all boxes.contains)) = true then none else
          some ⟨g, all.map (T.ren (intoBox boxes)), (rows.map fun r => (mapLRow (Lab.up m) r).map (V.ren (intoBox boxes))) ++ (ios.map fun x => (mapLRow (Lab.up m) x.2).map (V.ren (intoBox boxes))), hs, ios, boxes, m⟩ := rfl
theorem c_hand {o : O} : s.hand o = bo (s.opv o) (handT s o) := by
  unfold St.hand
  cases h : s.opv o with
  | none => cases o <;> rfl
  | some t =>
    simp only [bo_some]
    cases t <;> try (cases o <;> rfl)
    · cases o <;> (simp only [handT, bo]; cases s.cell _ <;> rfl)
    · cases o <;> (simp only [handT, bo]; cases s.merge _ _ <;> rfl)
theorem c_h1 {i : Nat} {v : V} : handT s (.t i) (.one v) = some ([v], false, some (Pl.ofTmp s i)) := rfl
theorem c_h2 {i : Nat} {r : List V} : handT s (.t i) (.agg r) = some (r, true, some (Pl.ofTmp s i)) := rfl
theorem c_h3 {x : Pv.T} {v : V} : handT s (.c x) (.one v) = some ([v.ro], false, none) := rfl
theorem c_h4 {x : Pv.T} {r : List V} : handT s (.c x) (.agg r) = some (roRow r, true, none) := rfl
theorem c_h5 {o : O} {p : Pl} : handT s o (.al p) = bo (s.cell p) fun v => some ([v.alv], false, some p) := rfl
theorem c_h6 {o : O} {p : Pl} {n : List V} : handT s o (.ala p n) = bo (s.merge p n) fun r => some (r, true, some p) := rfl
theorem c_ha0 {io : List Nat} {j : Nat} : handAll s io j [] = some [] := rfl
theorem c_haC {io : List Nat} {j : Nat} {o : O} {os : List O} : handAll s io j (o :: os) = bo (if io.contains j = true then some (ioHand (s.opv o)) else s.hand o) fun h => bo (handAll s io (j + 1) os) fun hs => some (h :: hs) := by
  simp only [handAll, bo]
  cases hc : io.contains j with
  | true =>
    simp only [if_true]
    cases h : s.opv o with
    | none => simp only [ioHand]; cases handAll s io (j + 1) os <;> rfl
    | some t => cases t <;> (simp only [ioHand]; cases handAll s io (j + 1) os <;> rfl)
  | false =>
    simp only [Bool.false_eq_true, if_false]
    cases s.hand o <;> cases handAll s io (j + 1) os <;> rfl
theorem c_ioH1 {p : Pl} {n : List V} : ioHand (some (.ala p n)) = ([], true, none) := rfl
theorem c_ioH2 {p : Pl} : ioHand (some (.al p)) = ([V.dead], false, none) := rfl
theorem c_va0 {m n : Nat} : viewAll m n [] = some [] := rfl
theorem c_vaC {m n : Nat} {r : List V} {ag : Bool} {p : Option Pl} {hs : List (List V × Bool × Option Pl)} : viewAll m n ((r, ag, p) :: hs) = bo (mkT (lendRow m n r) ag) fun t => bo (viewAll m (n + nOwn r) hs) fun ts => some (t :: ts) := by
  simp only [viewAll, bo]; cases mkT (lendRow m n r) ag <;> cases viewAll m (n + nOwn r) hs <;> rfl
theorem c_nOwn0 : nOwn [] = 0 := rfl
theorem c_nOwnSc {v : Value} {r : List V} : nOwn (.sc v :: r) = nOwn r := rfl
theorem c_nOwnSl {l : Lab} {sz : Nat} {rows : List (List V)} {r : List V} : nOwn (.sl l sz rows :: r) = if l = .own then nOwn r + 1 else nOwn r := by cases l <;> rfl
theorem c_nOwnPtr {a b : Nat} {r : List V} : nOwn (.ptr a b :: r) = nOwn r := rfl
theorem c_nOwnMr {a : Nat} {r : List V} : nOwn (.mref a :: r) = nOwn r := rfl
theorem c_nOwnD {r : List V} : nOwn (.dead :: r) = nOwn r := rfl
theorem c_nOwnClo {f : Nat} {a b r : List V} : nOwn (.clo f a b :: r) = nOwn r := rfl
theorem c_lend0 {m n : Nat} : lendRow m n [] = [] := rfl
theorem c_lendSc {m n : Nat} {v : Value} {r : List V} : lendRow m n (.sc v :: r) = .sc v :: lendRow m n r := rfl
theorem c_lendSl {m n : Nat} {l : Lab} {sz : Nat} {rows : List (List V)} {r : List V} : lendRow m n (.sl l sz rows :: r) = if l = .own then .sl (.lent n) sz (prtRows m n rows) :: lendRow m (n + 1) r else .sl (l.up m) sz (mapLRows (Lab.up m) rows) :: lendRow m n r := by cases l <;> rfl
theorem c_lendPtr {m n a b : Nat} {r : List V} : lendRow m n (.ptr a b :: r) = .ptr a b :: lendRow m n r := rfl
theorem c_lendMr {m n a : Nat} {r : List V} : lendRow m n (.mref a :: r) = .mref a :: lendRow m n r := rfl
theorem c_lendD {m n : Nat} {r : List V} : lendRow m n (.dead :: r) = .dead :: lendRow m n r := rfl
theorem c_lendClo {m n f : Nat} {a b r : List V} : lendRow m n (.clo f a b :: r) = .clo f a b :: lendRow m n r := rfl
theorem c_upRo {m : Nat} : Lab.up m .ro = .ro := rfl
theorem c_upOwn {m : Nat} : Lab.up m .own = .own := rfl
theorem c_upLent {m t : Nat} : Lab.up m (.lent t) = .lent (m + t) := rfl
theorem c_upPart {m t : Nat} : Lab.up m (.part t) = .part (m + t) := rfl
theorem c_dnRo {m : Nat} : Lab.dn m .ro = .ro := rfl
theorem c_dnOwn {m : Nat} : Lab.dn m .own = .own := rfl
theorem c_up0 {l : Lab} : Lab.up 0 l = l := by cases l <;> simp [Lab.up]
theorem c_ml0 {φ : Lab → Lab} : mapLRow φ [] = [] := rfl
theorem c_mlC {φ : Lab → Lab} {v : V} {r : List V} : mapLRow φ (v :: r) = v.mapL φ :: mapLRow φ r := rfl
theorem c_mlSc {φ : Lab → Lab} {v : Value} : V.mapL φ (.sc v) = .sc v := rfl
theorem c_mlSl {φ : Lab → Lab} {l : Lab} {sz : Nat} {rows : List (List V)} : V.mapL φ (.sl l sz rows) = .sl (φ l) sz (mapLRows φ rows) := rfl
theorem c_mlPtr {φ : Lab → Lab} {a b : Nat} : V.mapL φ (.ptr a b) = .ptr a b := rfl
theorem c_mlMr {φ : Lab → Lab} {a : Nat} : V.mapL φ (.mref a) = .mref a := rfl
theorem c_pT1 {v : V} : ptrsT (.one v) = ptrsV v := rfl
theorem c_pT2 {r : List V} : ptrsT (.agg r) = r.flatMap ptrsV := rfl
theorem c_pT3 {ts : List Pv.T} : ptrsT (.tup ts) = [] := rfl
theorem c_reach0 {n : Nat} {acc : List Nat} : reach s (n + 1) [] acc = acc := rfl
theorem c_reachC {n r : Nat} {todo acc : List Nat} : reach s (n + 1) (r :: todo) acc = if acc.contains r = true then reach s n todo acc else reachO s n r todo acc (s.boxRow r) := by
  simp only [reach, reachO]
  split
  · rfl
  · cases s.boxRow r <;> rfl
theorem c_reachO {n r : Nat} {todo acc : List Nat} {row : List V} : reachO s n r todo acc (some row) = reach s n (todo ++ row.flatMap ptrsV) (acc ++ [r]) := rfl
theorem c_reachN {n r : Nat} {todo acc : List Nat} : reachO s n r todo acc none = reach s n todo acc := rfl
theorem c_boxRow {r : Nat} : s.boxRow r = bo (s.get r) fun x => boxT r x.1 := by
  unfold St.boxRow bo
  cases s.get r with
  | none => rfl
  | some x => obtain ⟨t, v⟩ := x; cases t <;> rfl
theorem c_boxA {r : Nat} {row : List V} : boxT r (.agg row) = if 5000 ≤ r ∧ r < 30000 then some row else none := rfl
theorem c_boxM {r r' : Nat} {ka va : Bool} {ks vs : List (List V)} : boxT r (.mp r' ka va ks vs) = if r = r' ∧ 600000 ≤ r then some [.mp ka va ks vs] else none := rfl
theorem c_boxO {r : Nat} {v : V} : boxT r (.one v) = none := rfl
theorem c_rows0 : rowsOf s [] = some [] := rfl
theorem c_rowsC {r : Nat} {rs : List Nat} : rowsOf s (r :: rs) = bo (s.boxRow r) fun x => bo (rowsOf s rs) fun xs => some (x :: xs) := by
  simp only [rowsOf, bo]; cases s.boxRow r <;> cases rowsOf s rs <;> rfl
theorem c_lr0 : lentRoots [] = [] := rfl
theorem c_lrC {r : List V} {ag : Bool} {p : Option Pl} {hs : List (List V × Bool × Option Pl)} : lentRoots ((r, ag, p) :: hs) = (if nOwn r = 0 then [] else lrP p) ++ lentRoots hs := by
  simp only [lentRoots, List.flatMap_cons]; rfl
theorem c_lrP {p : Pl} : lrP (some p) = [p.r] := rfl
theorem c_lrN : lrP none = [0] := rfl
theorem c_lt0 : lentTouch [] = [] := rfl
theorem c_ltC {r : List V} {ag : Bool} {p : Option Pl} {hs : List (List V × Bool × Option Pl)} : lentTouch ((r, ag, p) :: hs) = (if nOwn r = 0 then [] else ltP p) ++ lentTouch hs := by
  simp only [lentTouch, List.flatMap_cons]; rfl
theorem c_ltP {p : Pl} : ltP (some p) = [(p.r, p.path.length)] := rfl
theorem c_takeIo0 {as : List O} : takeIo s as [] = some [] := rfl
theorem c_takeIoC {as : List O} {j : Nat} {js : List Nat} : takeIo s as (j :: js) = bo as[j]? fun o => bo (takeOne s o) fun x => bo (takeIo s as js) fun xs => some (x :: xs) := by
  simp only [takeIo, bo]
  cases as[j]? with
  | none => rfl
  | some o => simp only; cases takeOne s o <;> cases takeIo s as js <;> rfl
theorem c_takeOne {o : O} : takeOne s o = bo (s.opv o) (toT s) := by
  unfold takeOne bo
  cases s.opv o with
  | none => rfl
  | some t => cases t <;> rfl
theorem c_toA {p : Pl} {n : List V} : toT s (.ala p n) = bo (s.whole p) fun r => req (r.length = n.length) (some (p.r, mergeRow n r)) := by
  simp only [toT, bo, req]; cases s.whole p <;> rfl
theorem c_toB {p : Pl} : toT s (.al p) = bo (s.whole p) fun r => req (r.length = 1) (some (p.r, r.map V.alv)) := by
  simp only [toT, bo, req]; cases s.whole p with
  | none => rfl
  | some r => cases r with
    | nil => rfl
    | cons a r => cases r with
      | nil => rfl
      | cons b r => simp
theorem c_whole {p : Pl} : s.whole p = bo (s.get p.r) fun x => req (p.path = [] ∧ p.off = 0 ∧ x.2 = p.ver) x.1.row? := by
  unfold St.whole bo req
  cases s.get p.r with
  | none => rfl
  | some x => obtain ⟨t, v⟩ := x; rfl
theorem c_ren1 {f : Nat → Nat} {v : V} : T.ren f (.one v) = .one (v.ren f) := rfl
theorem c_ren2 {f : Nat → Nat} {r : List V} : T.ren f (.agg r) = .agg (r.map (V.ren f)) := rfl
theorem c_rSc {f : Nat → Nat} {v : Value} : V.ren f (.sc v) = .sc v := rfl
theorem c_rSl {f : Nat → Nat} {l : Lab} {sz : Nat} {rows : List (List V)} : V.ren f (.sl l sz rows) = .sl l sz rows := rfl
theorem c_rPtr {f : Nat → Nat} {a b : Nat} : V.ren f (.ptr a b) = .ptr (f a) b := rfl
theorem c_rMr {f : Nat → Nat} {a : Nat} : V.ren f (.mref a) = .mref (f a) := rfl
theorem c_rClo {f : Nat → Nat} {g : Nat} {a b : List V} : V.ren f (.clo g a b) = .clo g (a.map (V.ren0 f)) (b.map (V.ren0 f)) := rfl
theorem c_r0Sc {f : Nat → Nat} {v : Value} : V.ren0 f (.sc v) = .sc v := rfl
theorem c_r0Ptr {f : Nat → Nat} {a b : Nat} : V.ren0 f (.ptr a b) = .ptr (f a) b := rfl
theorem c_rDead {f : Nat → Nat} : V.ren f .dead = .dead := rfl
theorem c_intoBox {boxes : List Nat} {r : Nat} : intoBox boxes r = (if 600000 ≤ r then 610000 else 10000) + idx boxes r := rfl
theorem c_idxC {r a : Nat} {as : List Nat} : idx (a :: as) r = if a = r then 0 else idx as r + 1 := by
  simp only [idx, List.idxOf_cons]; by_cases h : a = r
  · simp [h]
  · have : (a == r) = false := by simp [h]
    simp [h, this]
theorem c_backBox {boxes : List Nat} {b r : Nat} : backBox boxes b r = if r = 20000 then b else (boxes[r - (if 600000 ≤ r then 610000 else 10000)]?).getD 0 := by
  unfold backBox; simp
theorem c_gN {a b : Nat} : (some a).getD b = a := rfl
def backRows (s : St) (b : Nat) (ios : List (Nat × List V)) (boxes : List Nat) (m : Nat) (rows : List (List V)) : Option (St × List (Nat × Nat)) :=
  bo (putRows s boxes ((rows.map fun r => (mapLRow (Lab.dn m) r).map (V.ren (backBox boxes b))))) fun s1 =>
  bo (putIo s1 ios ((rows.drop boxes.length).map fun r => (mapLRow (Lab.dn m) r).map (V.ren (backBox boxes b)))) fun s2 =>
  newBox s2 b (rows.drop (boxes.length + ios.length)) (fun r => (mapLRow (Lab.dn m) r).map (V.ren (backBox boxes b)))
theorem c_back {b : Nat} {mv : Bool} {hs : List (List V × Bool × Option Pl)} {ios : List (Nat × List V)} {boxes : List Nat} {m : Nat} {t : Pv.T} {rows : List (List V)} :
    evBack s b mv hs ios boxes m t rows = if (rows.any fun r => anyLRow (Lab.low m) r || (ptrRow r).contains 20000) = true then none else
      bo (backRows s b ios boxes m rows) fun x =>
        if (t.tops.any (V.anyL (Lab.low m))) = false then some (homeT m [] (backBox boxes b) t, x.1, boxes.map (fun r => (r, 0)) ++ ios.map (fun x => (x.1, 0)) ++ x.2) else
        if (decide (lentRoots hs).Nodup) = false then none else
        bo (settleAll mv t.tops x.1 0 hs) fun y => some (homeT m y.2 (backBox boxes b) t, y.1, boxes.map (fun r => (r, 0)) ++ ios.map (fun x => (x.1, 0)) ++ x.2 ++ lentTouch hs) := by
  unfold evBack backRows
  simp only
  split
  · rfl
  · simp only [bo]
    cases putRows s boxes (rows.map fun r => (mapLRow (Lab.dn m) r).map (V.ren (backBox boxes b))) with
    | none => rfl
    | some s1 =>
      simp only
      cases putIo s1 ios ((rows.drop boxes.length).map fun r => (mapLRow (Lab.dn m) r).map (V.ren (backBox boxes b))) with
      | none => rfl
      | some s2 =>
        simp only [newBox]
        cases rows.drop (boxes.length + ios.length) with
        | nil =>
          simp only
          split
          · rfl
          · cases hN : decide (lentRoots hs).Nodup with
            | true => simp only [Bool.not_true, Bool.false_eq_true, if_false, reduceCtorEq]; cases settleAll mv t.tops s2 0 hs <;> rfl
            | false => simp
        | cons row rest =>
          cases rest with
          | cons a c => rfl
          | nil =>
            simp only
            cases s2.get b with
            | some x => rfl
            | none =>
              simp only
              split
              · rfl
              · cases hN : decide (lentRoots hs).Nodup with
                | true => simp only [Bool.not_true, Bool.false_eq_true, if_false, reduceCtorEq]; cases settleAll mv t.tops (s2.set b (.agg ((mapLRow (Lab.dn m) row).map (V.ren (backBox boxes b))), 0)) 0 hs <;> rfl
                | false => simp
theorem c_backRows {b : Nat} {ios : List (Nat × List V)} {boxes : List Nat} {m : Nat} {rows : List (List V)} : backRows s b ios boxes m rows = bo (putRows s boxes ((rows.map fun r => (mapLRow (Lab.dn m) r).map (V.ren (backBox boxes b))))) fun s1 =>
  bo (putIo s1 ios ((rows.drop boxes.length).map fun r => (mapLRow (Lab.dn m) r).map (V.ren (backBox boxes b)))) fun s2 =>
  newBox s2 b (rows.drop (boxes.length + ios.length)) (fun r => (mapLRow (Lab.dn m) r).map (V.ren (backBox boxes b))) := rfl
theorem c_nb0 {b : Nat} {f : List V → List V} : newBox s b [] f = some (s, []) := rfl
theorem c_nb1 {b : Nat} {f : List V → List V} {row : List V} : newBox s b [row] f = ifNone (s.get b) (some (s.set b (.agg (f row), 0), [(b, 0)])) := by
  simp only [newBox, ifNone]; cases s.get b <;> rfl
theorem c_pr0 {rows : List (List V)} : putRows s [] rows = some s := by cases rows <;> rfl
theorem c_prC {r : Nat} {rs : List Nat} {row : List V} {rows : List (List V)} : putRows s (r :: rs) (row :: rows) = bo (s.get r) fun x => bo (putBox r x.1 row) fun t => putRows (s.set r (t, x.2 + 1)) rs rows := by
  simp only [putRows, bo]
  cases s.get r with
  | none => rfl
  | some x => obtain ⟨t, v⟩ := x; simp only; cases putBox r t row <;> rfl
theorem c_pbA {r : Nat} {o row : List V} : putBox r (.agg o) row = req (o.length = row.length) (some (.agg row)) := by cases row <;> rfl
theorem c_pbM {r r' : Nat} {ka va ka' va' : Bool} {ks vs ks' vs' : List (List V)} : putBox r (.mp r' ka va ks vs) [.mp ka' va' ks' vs'] = some (.mp r ka' va' ks' vs') := rfl
theorem c_pi0 {rows : List (List V)} : putIo s [] rows = some s := by cases rows <;> rfl
theorem c_piC {r : Nat} {old row : List V} {ps : List (Nat × List V)} {rows : List (List V)} : putIo s ((r, old) :: ps) (row :: rows) = bo (s.get r) fun x => bo x.1.row? fun cur => req (old.length = row.length ∧ old.length = cur.length) (putIo (s.set r (x.1.back (back3 old cur row), x.2 + 1)) ps rows) := by
  simp only [putIo, bo, req]
  cases s.get r with
  | none => rfl
  | some x => obtain ⟨t, v⟩ := x; simp only; cases t.row? <;> rfl
theorem c_b30 {q u : List V} : back3 [] q u = [] := rfl
theorem c_b3C {a b c : V} {r q u : List V} : back3 (a :: r) (b :: q) (c :: u) = (if isOwnSl a = true then c else b) :: back3 r q u := rfl
theorem c_ios {l : Lab} {sz : Nat} {rows : List (List V)} : isOwnSl (.sl l sz rows) = decide (l = .own) := by cases l <;> rfl
theorem c_iosc {v : Value} : isOwnSl (.sc v) = false := rfl
theorem c_tops1 {v : V} : T.tops (.one v) = [v] := rfl
theorem c_tops2 {r : List V} : T.tops (.agg r) = r := rfl
theorem c_tops3 {ts : List Pv.T} : T.tops (.tup ts) = ts.flatMap top1 := rfl
theorem c_top1 {v : V} : top1 (.one v) = [v] := rfl
theorem c_top2 {r : List V} : top1 (.agg r) = r := rfl
theorem c_an0 {p : Lab → Bool} : anyLRow p [] = false := rfl
theorem c_anC {p : Lab → Bool} {v : V} {r : List V} : anyLRow p (v :: r) = (v.anyL p || anyLRow p r) := rfl
theorem c_anSc {p : Lab → Bool} {v : Value} : V.anyL p (.sc v) = false := rfl
theorem c_anSl {p : Lab → Bool} {l : Lab} {sz : Nat} {rows : List (List V)} : V.anyL p (.sl l sz rows) = (p l || anyLRows p rows) := rfl
theorem c_anPtr {p : Lab → Bool} {a b : Nat} : V.anyL p (.ptr a b) = false := rfl
theorem c_anMr {p : Lab → Bool} {a : Nat} : V.anyL p (.mref a) = false := rfl
theorem c_anDead {p : Lab → Bool} : V.anyL p .dead = false := rfl
theorem c_ar0 {p : Lab → Bool} : anyLRows p [] = false := rfl
theorem c_lowO {m : Nat} : Lab.low m .own = false := rfl
theorem c_lowR {m : Nat} : Lab.low m .ro = false := rfl
theorem c_lowL {m t : Nat} : Lab.low m (.lent t) = decide (t < m) := rfl
theorem c_lowP {m t : Nat} : Lab.low m (.part t) = decide (t < m) := rfl
theorem c_low0 {l : Lab} : Lab.low 0 l = false := by cases l <;> simp [Lab.low]
theorem c_home1 {m : Nat} {b : List (Nat × V)} {f : Nat → Nat} {v : V} : homeT m b f (.one v) = .one (homeV m b f v) := rfl
theorem c_home2 {m : Nat} {b : List (Nat × V)} {f : Nat → Nat} {r : List V} : homeT m b f (.agg r) = .agg (r.map (homeV m b f)) := rfl
theorem c_home3 {m : Nat} {b : List (Nat × V)} {f : Nat → Nat} {ts : List Pv.T} : homeT m b f (.tup ts) = .tup (ts.map (home1 m b f)) := rfl
theorem c_hm1 {m : Nat} {b : List (Nat × V)} {f : Nat → Nat} {v : V} : home1 m b f (.one v) = .one (homeV m b f v) := rfl
theorem c_hm2 {m : Nat} {b : List (Nat × V)} {f : Nat → Nat} {r : List V} : home1 m b f (.agg r) = .agg (r.map (homeV m b f)) := rfl
theorem c_hvSc {m : Nat} {b : List (Nat × V)} {f : Nat → Nat} {v : Value} : homeV m b f (.sc v) = .sc v := rfl
theorem c_hvO {m : Nat} {b : List (Nat × V)} {f : Nat → Nat} {sz : Nat} {rows : List (List V)} : homeV m b f (.sl .own sz rows) = .sl .own sz (mapLRows (Lab.dn m) rows) := rfl
theorem c_hvR {m : Nat} {b : List (Nat × V)} {f : Nat → Nat} {sz : Nat} {rows : List (List V)} : homeV m b f (.sl .ro sz rows) = .sl .ro sz (mapLRows (Lab.dn m) rows) := rfl
theorem c_hvPtr {m : Nat} {b : List (Nat × V)} {f : Nat → Nat} {r o : Nat} : homeV m b f (.ptr r o) = .ptr (f r) o := rfl
theorem c_hvMr {m : Nat} {b : List (Nat × V)} {f : Nat → Nat} {r : Nat} : homeV m b f (.mref r) = .mref (f r) := rfl
theorem c_ptrRow {r : List V} : ptrRow r = r.flatMap ptrsV := rfl
theorem f_start {fn : Fn} {io : List Nat} {args : List Pv.T} {ext : List (List V)} : start fn io args ext = req (args.length = fn.nparams ∧ io = fn.io.map (fun x => x.1) ∧ (fn.io.all fun x => argAg args[x.1]? x.2.2) = true)
    (startIo (startArgs 0 args ++ startExt 0 (ext.take (ext.length - fn.io.length))) fn.io (ext.drop (ext.length - fn.io.length))) := by
  unfold start
  congr 1
theorem f_ag1 {r : List V} {b : Bool} : argAg (some (.agg r)) b = b := rfl
theorem f_ag2 {v : V} {b : Bool} : argAg (some (.one v)) b = !b := rfl
theorem f_sa0 {i : Nat} : startArgs i [] = [] := rfl
theorem f_saC {i : Nat} {t : Pv.T} {ts : List Pv.T} : startArgs i (t :: ts) = (i, t, 0) :: startArgs (i + 1) ts := rfl
theorem f_se0 {i : Nat} : startExt i [] = [] := rfl
theorem f_seC {i : Nat} {r : List V} {rs : List (List V)} : startExt i (r :: rs) = (extAt i r, extT i r, 0) :: startExt (i + 1) rs := rfl
theorem f_ea {j : Nat} {r : List V} : extAt j r = if isMp r = true then 610000 + j else 10000 + j := by
  unfold extAt isMp; split <;> simp
theorem f_eaM {j : Nat} {r : List V} (h : isMp r = false) : extT j r = .agg r := by
  unfold extT; split
  · simp [isMp] at h
  · rfl
theorem f_mpSc {v : Value} {r : List V} : isMp (.sc v :: r) = false := rfl
theorem f_mpSl {l : Lab} {sz : Nat} {rows : List (List V)} {r : List V} : isMp (.sl l sz rows :: r) = false := rfl
theorem f_mpPtr {a b : Nat} {r : List V} : isMp (.ptr a b :: r) = false := rfl
theorem f_io0 : startIo s [] [] = some s := rfl
theorem f_ioC {i j : Nat} {ag : Bool} {io : List (Nat × Nat × Bool)} {r : List V} {rs : List (List V)} : startIo s ((i, j, ag) :: io) (r :: rs) = bo (mkT r ag) fun t => startIo (s.set i (t, 0)) io rs := by
  simp only [startIo, bo]; cases mkT r ag <;> rfl
theorem f_fin {fn : Fn} {ext : List (List V)} : fin fn cx ext s = bo (readAll s cx fn.results) fun x => bo (extRows x.2 0 (ext.take (ext.length - fn.io.length))) fun e1 => bo (ioOut x.2 fn.io (ext.drop (ext.length - fn.io.length))) fun e2 =>
    req ((e1 ++ e2).all okPtr = true) (finOne (ext.length - fn.io.length) fn x.2 (e1 ++ e2) x.1) := rfl
theorem f_ra0 : readAll s cx [] = some ([], s) := rfl
theorem f_raC {r : Rs} {rs : List Rs} : readAll s cx (r :: rs) = bo (readRes s cx r) fun x => bo (readAll x.2 cx rs) fun y => some (x.1 :: y.1, y.2) := by
  simp only [readAll, bo]
  cases readRes s cx r with
  | none => rfl
  | some x =>
    obtain ⟨t, s'⟩ := x
    simp only
    cases readAll s' cx rs with
    | none => rfl
    | some y => obtain ⟨a, b⟩ := y; rfl
theorem f_rt {i : Nat} : readRes s cx (.t i) = bo (s.take cx true (.t i)) fun x => bo (mkT x.1 x.2.1) fun t => some (t, s.upd x.2.2.1) := by
  simp only [readRes, bo]
  cases s.take cx true (.t i) with
  | none => rfl
  | some x => obtain ⟨a, b, c, d⟩ := x; simp only; cases mkT a b <;> rfl
theorem f_rc {a : Nat} {n : Option Nat} : readRes s cx (.c a n) = bo (s.get a) fun x => bo (ptrPl s x.1) fun p => bo (resRow s p n) fun v => bo (s.takeAt cx true p v v n.isSome) fun x => bo (mkT x.1 x.2.1) fun t => some (t, s.upd x.2.2.1) := by
  simp only [readRes, bo]
  cases s.get a with
  | none => rfl
  | some x =>
    obtain ⟨t, v⟩ := x
    cases t <;> simp only [ptrPl]
    rename_i v
    cases v <;> simp only
    rename_i r o
    cases n with
    | none =>
      simp only [resRow, bo, Option.isSome_none]
      cases s.cell ⟨r, o, [], s.ver r⟩ with
      | none => rfl
      | some w =>
        simp only
        cases s.takeAt cx true ⟨r, o, [], s.ver r⟩ [w] [w] false with
        | none => rfl
        | some x => obtain ⟨a, b, c, d⟩ := x; simp only; cases mkT a b <;> rfl
    | some n =>
      simp only [resRow, Option.isSome_some]
      cases s.cells ⟨r, o, [], s.ver r⟩ n with
      | none => rfl
      | some w =>
        simp only
        cases s.takeAt cx true ⟨r, o, [], s.ver r⟩ w w true with
        | none => rfl
        | some x => obtain ⟨a, b, c, d⟩ := x; simp only; cases mkT a b <;> rfl
theorem f_ptrPl {r k : Nat} : ptrPl s (.one (.ptr r k)) = some ⟨r, k, [], s.ver r⟩ := rfl
theorem f_res0 {p : Pl} : resRow s p none = bo (s.cell p) fun v => some [v] := rfl
theorem f_resN {p : Pl} {n : Nat} : resRow s p (some n) = s.cells p n := rfl
theorem f_isS {n : Nat} : (some n).isSome = true := rfl
theorem f_isN : (none : Option Nat).isSome = false := rfl
theorem f_isP {α : Type} {x : α} : (some x).isSome = true := rfl
theorem f_er0 {j : Nat} : extRows s j [] = some [] := rfl
theorem f_erC {j : Nat} {r : List V} {rs : List (List V)} : extRows s j (r :: rs) = bo (s.boxRow (extAt j r)) fun x => bo (extRows s (j + 1) rs) fun xs => some (x :: xs) := by
  simp only [extRows, bo]; cases s.boxRow (extAt j r) <;> cases extRows s (j + 1) rs <;> rfl
theorem f_ioo0 : ioOut s [] [] = some [] := rfl
theorem f_iooC {i r : Nat} {ag : Bool} {io : List (Nat × Nat × Bool)} {r0 : List V} {rs : List (List V)} : ioOut s ((i, r, ag) :: io) (r0 :: rs) = bo (s.get r) fun x => bo (ioOut s io rs) fun xs => bo x.1.row? fun row =>
    req (((r != i || x.1.isAgg == ag) && row.length == r0.length && (ag || r0.all fun v => !v.isDead)) = true) (some (row :: xs)) := by
  simp only [ioOut, bo, req]
  cases s.get r with
  | none => cases ioOut s io rs <;> rfl
  | some x =>
    cases ioOut s io rs with
    | none => rfl
    | some xs => simp only; cases x.1.row? <;> rfl
theorem f_okPtr {r : List V} : okPtr r = (r.flatMap ptrsV).all isExt := rfl
theorem f_isExt {x : Nat} : isExt x = (decide (610000 ≤ x) || decide (10000 ≤ x) && decide (x < 30000)) := rfl
theorem f_fo1 {nb : Nat} {fn : Fn} {e : List (List V)} {v : Value} : finOne nb fn s e [.one (.sc v)] = some (.one (.sc v), e) := rfl
theorem f_fo2 {nb : Nat} {fn : Fn} {e : List (List V)} {l : Lab} {sz : Nat} {rows : List (List V)} : finOne nb fn s e [.one (.sl l sz rows)] = some (.one (.sl l sz rows), e) := rfl
theorem f_fo3 {nb : Nat} {fn : Fn} {e : List (List V)} {r : List V} : finOne nb fn s e [.agg r] = if (r.flatMap ptrsV).all isExt = true then some (.agg r, e) else none := rfl
theorem f_fo4 {nb : Nat} {fn : Fn} {e : List (List V)} {r o : Nat} : finOne nb fn s e [.one (.ptr r o)] = if r < 10000 then bo (if (fn.io.any (fun x => x.2.1 == r)) = true then none else s.boxRow r) fun row => if okPtr row = true then some (.one (.ptr 20000 o), e ++ [row]) else none else if isExt r = true then some (.one (.ptr r o), e) else none := by
  simp only [finOne, bo]
  split
  · cases (if (fn.io.any fun x => x.2.1 == r) = true then none else s.boxRow r) <;> rfl
  · rfl
theorem f_fo5 {nb : Nat} {fn : Fn} {e : List (List V)} {a b : Pv.T} {ts : List Pv.T} : finOne nb fn s e (a :: b :: ts) = if 100 < (a :: b :: ts).length then none else if ((a :: b :: ts).flatMap ptrsT).all isExt = true then some (.tup (a :: b :: ts), e) else none := by
  cases a <;> first | rfl | (rename_i v; cases v <;> rfl)
theorem f_fo6 {nb : Nat} {fn : Fn} {e : List (List V)} : finOne nb fn s e [] = some (.tup [], e) := by
  simp [finOne]
end
end Pv
