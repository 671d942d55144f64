import GoSem.Dispatch
set_option linter.all false
namespace Pv
open Go
inductive Lab where
  | own | ro | lent (t : Nat) | part (t : Nat)
deriving DecidableEq, Inhabited
inductive V where
  | sc (v : Value)
  | sl (l : Lab) (sz : Nat) (rows : List (List V))
  | ptr (r off : Nat)
  | clo (f : Nat) (first caps : List V)
  | mref (r : Nat)
  | mp (ka va : Bool) (ks vs : List (List V))
  | dead
deriving Inhabited
structure Pl where
  r : Nat
  off : Nat
  path : List (Nat × Nat × Nat)
  ver : Nat
deriving Inhabited
inductive T where
  | one (v : V)
  | agg (row : List V)
  | al (p : Pl)
  | ala (p : Pl) (snap : List V)
  | slb (p : Pl) (lo hi : Nat) (capped : Bool)
  | ad (p : Pl)
  | rad (row : List V) (off : Nat)
  | tup (ts : List T)
  | mp (r : Nat) (ka va : Bool) (ks vs : List (List V))
deriving Inhabited
inductive O where
  | t (i : Nat)
  | c (x : T)
deriving Inhabited
inductive K where
  | move | assign (res : Bool) | pick
  | bin (op : BinOp) | binB (neg : Bool) | eq (neg : Bool) (ks : List Bool) | un (op : UnOp) | conv (k : IntKind)
  | alloc (b : Nat) (zero : List V) | box (b : Nat)
  | fld (off : Nat) | ida (sz : Nat) | idarr (len sz : Nat)
  | load (n : Option Nat) | store (res : Bool) (n : Nat)
  | fieldV (off : Nat) (n : Option Nat) | idxV (len sz : Nat) (n : Option Nat) | idxS
  | build (zero : List V) (parts : List (Nat × Nat))
  | bsl (sz : Nat) (zero : List V) (len : Nat) (parts : List Nat)
  | mks (sz : Nat) (zero : List V) (bytes : Nat)
  | slc (sz : Nat) (lo hi max : Bool)
  | app (sz bytes : Nat)
  | len | lenS | lenM | lenC (n : Nat) | mn | mx
  | call (io : List Nat) (b : Nat) (mv : Bool)
  | ext (i : Nat) | mkf (f : Nat) (nfirst : Nat) | nilchk
  | mkm (b : Nat) (ka va : Bool) | mset | mget (zero : List V) (ok : Bool)
  | bad (why : String)
deriving Inhabited
structure Ins where
  k : K
  xs : List O
  dst : Option Nat
  grd : Option (Nat × Bool)
deriving Inhabited
structure Hint where
  kd : List Nat
  ks : List Nat
  w : List Nat
  soft : List Nat
deriving Inhabited
inductive Cd where
  | skip
  | reg (ops : List Ins) (live : List Nat)
  | drw (ops : List Ins) (hs : List Hint) (live : List Nat)
  | seq (a b : Cd)
  | cond (c : O) (a b : Cd)
  | block (id : Nat) (b : Cd)
  | loop (live : List Nat) (b : Cd)
  | exit (id : Nat)
  | ret
  | clone (x d sz bytes : Nat)   -- slices.Clone
  | bad (why : String)
deriving Inhabited
inductive Rs where
  | t (i : Nat)
  | c (a : Nat) (n : Option Nat)
structure Fn where
  nparams : Nat
  named : List Nat
  io : List (Nat × Nat × Bool)
  results : List Rs
  code : Cd
structure Cx where
  named : List Nat
  pin : List (Nat × Nat)
def Cx.held (cx : Cx) (r : Nat) : Bool := cx.pin.any fun x => x.2 == r
def V.noOwn : V → Bool
  | .sl l _ _ => l != .own
  | .mp .. => false
  | .dead => false
  | _ => true
def V.isDead : V → Bool
  | .dead => true
  | _ => false
def V.isSc : V → Bool
  | .sc _ => true
  | _ => false
def V.noPtr : V → Bool
  | .ptr _ _ => false
  | .mref _ => false
  | .clo _ _ _ => false
  | _ => true
mutual
def V.ro : V → V
  | .sl .own sz rows => .sl .ro sz (roRows rows)
  | v => v
termination_by structural x => x
def roRow : List V → List V
  | [] => []
  | v :: r => v.ro :: roRow r
termination_by structural x => x
def roRows : List (List V) → List (List V)
  | [] => []
  | v :: r => roRow v :: roRows r
termination_by structural x => x
end
mutual
def V.mapL (φ : Lab → Lab) : V → V
  | .sl l sz rows => .sl (φ l) sz (mapLRows φ rows)
  | v => v
termination_by structural x => x
def mapLRow (φ : Lab → Lab) : List V → List V
  | [] => []
  | v :: r => v.mapL φ :: mapLRow φ r
termination_by structural x => x
def mapLRows (φ : Lab → Lab) : List (List V) → List (List V)
  | [] => []
  | v :: r => mapLRow φ v :: mapLRows φ r
termination_by structural x => x
end
mutual
def V.anyL (q : Lab → Bool) : V → Bool
  | .sl l _ rows => q l || anyLRows q rows
  | _ => false
termination_by structural x => x
def anyLRow (q : Lab → Bool) : List V → Bool
  | [] => false
  | v :: r => v.anyL q || anyLRow q r
termination_by structural x => x
def anyLRows (q : Lab → Bool) : List (List V) → Bool
  | [] => false
  | v :: r => anyLRow q v || anyLRows q r
termination_by structural x => x
end
def Lab.up (m : Nat) : Lab → Lab
  | .lent t => .lent (m + t)
  | .part t => .part (m + t)
  | l => l
def Lab.dn (m : Nat) : Lab → Lab
  | .lent t => if t < m then .ro else .lent (t - m)
  | .part t => if t < m then .ro else .part (t - m)
  | l => l
def Lab.low (m : Nat) : Lab → Bool
  | .lent t => decide (t < m)
  | .part t => decide (t < m)
  | _ => false
def Lab.isTag (k : Nat) : Lab → Bool
  | .lent t => t == k
  | .part t => t == k
  | _ => false
abbrev V.up (m : Nat) (v : V) : V := v.mapL (Lab.up m)
abbrev V.dn (m : Nat) (v : V) : V := v.mapL (Lab.dn m)
mutual
def V.prt (m n : Nat) : V → V
  | .sl .own sz rows => .sl (.part n) sz (prtRows m n rows)
  | v => v.up m
termination_by structural x => x
def prtRow (m n : Nat) : List V → List V
  | [] => []
  | v :: r => v.prt m n :: prtRow m n r
termination_by structural x => x
def prtRows (m n : Nat) : List (List V) → List (List V)
  | [] => []
  | v :: r => prtRow m n v :: prtRows m n r
termination_by structural x => x
end
def lentIn (k : Nat) : List V → Nat
  | [] => 0
  | .sl (.lent t) _ _ :: r => if t = k then lentIn k r + 1 else lentIn k r
  | _ :: r => lentIn k r
def partIn (k : Nat) : List V → Bool
  | [] => false
  | .sl (.lent t) sz rows :: r => (if t = k then false else anyLRows (Lab.isTag k) rows) || partIn k r
  | v :: r => v.anyL (Lab.isTag k) || partIn k r
def shiftPath : List (Nat × Nat × Nat) → Nat → List (Nat × Nat × Nat)
  | [], _ => []
  | [(i, sz, o)], k => [(i, sz, o + k)]
  | st :: st2 :: q, k => st :: shiftPath (st2 :: q) k
def shift (p : Pl) (k : Nat) : Pl := match p.path with
  | [] => { p with off := p.off + k }
  | st :: q => { p with path := shiftPath (st :: q) k }
def splice (row : List V) (off : Nat) (xs : List V) : List V := row.take off ++ xs ++ row.drop (off + xs.length)
def getRow : List V → Nat → List (Nat × Nat × Nat) → Option (List V × Nat)
  | row, off, [] => some (row, off)
  | row, off, (i, sz, o) :: p => match row[off]? with
    | some (.sl .own sz' rows) => if sz = sz' then (match rows[i]? with
      | some r => getRow r o p
      | none => none) else none
    | _ => none
def setRow : List V → Nat → List (Nat × Nat × Nat) → List V → Option (List V)
  | row, off, [], xs => if off + xs.length ≤ row.length then some (splice row off xs) else none
  | row, off, (i, sz, o) :: p, xs => match row[off]? with
    | some (.sl .own sz' rows) => if sz = sz' then (match rows[i]? with
      | some r => match setRow r o p xs with
        | some r' => some (row.set off (.sl .own sz (rows.set i r')))
        | none => none
      | none => none) else none
    | _ => none
def Cx.boxBad (cx : Cx) (b : Nat) : O → Bool
  | .t i => cx.pin.any fun y => y.2 == b && y.1 != i
  | .c _ => cx.pin.any fun y => y.2 == b
abbrev Slot := T × Nat
abbrev St := List (Nat × Slot)
abbrev Upd := List (Nat × Slot)
def St.get : St → Nat → Option Slot
  | [], _ => none
  | (j, x) :: s, i => if j = i then some x else St.get s i
def St.set : St → Nat → Slot → St
  | [], i, y => [(i, y)]
  | (j, x) :: s, i, y => if j = i then (i, y) :: s else if i < j then (i, y) :: (j, x) :: s else (j, x) :: St.set s i y
def St.upd (s : St) : Upd → St
  | [] => s
  | (i, x) :: us => St.upd (s.set i x) us
def ptrs1 : V → List Nat
  | .ptr r _ => [r]
  | .mref r => [r]
  | _ => []
def ptrsV : V → List Nat
  | .ptr r _ => [r]
  | .mref r => [r]
  | .clo _ a b => (a ++ b).flatMap ptrs1
  | _ => []
def deads (r : List V) : List V := r.map fun _ => .dead
def kept (l : List Nat) (j : Nat) : Bool := if 600000 ≤ j then decide (610000 ≤ j) || l.contains j else if 30000 ≤ j then l.contains ((j - 30000) / 100) else decide (10000 ≤ j) || l.contains j
def keepT (l : List Nat) : T → T
  | .al p => if kept l p.r then .al p else .one .dead
  | .ala p n => if kept l p.r && (n.flatMap ptrsV).all (kept l) then .ala p n else .one .dead
  | .slb p a b c => if kept l p.r then .slb p a b c else .one .dead
  | .ad p => if kept l p.r then .ad p else .one .dead
  | .one v => if (ptrsV v).all (kept l) then .one v else .one .dead
  | .agg r => if (r.flatMap ptrsV).all (kept l) then .agg r else .agg (deads r)
  | .mp r ka va ks vs => if kept l r then .mp r ka va ks vs else .one .dead
  | t => t
def St.keep : St → List Nat → St
  | [], _ => []
  | (j, t, v) :: s, l => if kept l j then (j, keepT l t, v) :: St.keep s l else St.keep s l
def tupAt (d i : Nat) : Nat := 30000 + 100 * d + i
def St.ver (s : St) (i : Nat) : Nat := match s.get i with
  | some x => x.2
  | none => 0
def St.new (s : St) (i : Nat) (t : T) : Nat × Slot := (i, t, match s.get i with | some x => x.2 + 1 | none => 0)
def T.row? : T → Option (List V)
  | .one v => some [v]
  | .agg r => some r
  | _ => none
def T.back : T → List V → T
  | .one _, [v] => .one v
  | _, r => .agg r
def St.row (s : St) (r : Nat) : Option (List V) := match s.get r with
  | some x => x.1.row?
  | none => none
def St.place (s : St) (p : Pl) : Option (List V × Nat) := match s.get p.r with
  | some (t, v) => if v = p.ver then (match t.row? with
    | some r => getRow r p.off p.path
    | none => none) else none
  | none => none
def St.cell (s : St) (p : Pl) : Option V := match s.place p with
  | some (r, o) => r[o]?
  | none => none
def St.cells (s : St) (p : Pl) (n : Nat) : Option (List V) := match s.place p with
  | some (r, o) => if o + n ≤ r.length then some ((r.drop o).take n) else none
  | none => none
def V.alv : V → V
  | .sl l sz rows => .sl l sz rows
  | _ => .dead
def mergeRow : List V → List V → List V
  | a :: r, b :: q => (if a.noOwn then a else b.alv) :: mergeRow r q
  | _, _ => []
def lowWith : List V → List V → List V → List V
  | a :: r, x :: xs, b :: q => (if a.noOwn then (if b.noOwn then b else .dead) else x) :: lowWith r xs q
  | _, _, _ => []
def St.merge (s : St) (p : Pl) (snap : List V) : Option (List V) := match s.cells p snap.length with
  | some r => some (mergeRow snap r)
  | none => none
def St.put (s : St) (p : Pl) (xs : List V) (bump : Bool) : Option Upd := match s.get p.r with
  | some (t, v) => if v = p.ver then (match t.row? with
    | some r => (match setRow r p.off p.path xs with
      | some r' => some [(p.r, t.back r', if bump then v + 1 else v)]
      | none => none)
    | none => none) else none
  | none => none
def O.tmp : O → List Nat
  | .t i => [i]
  | .c _ => []
def St.opv (s : St) : O → Option T
  | .t i => match s.get i with
    | some x => some x.1
    | none => none
  | .c x => some x
def Pl.ofTmp (s : St) (i : Nat) : Pl := ⟨i, 0, [], s.ver i⟩
structure Sv where
  p : Option (Pl × Nat × Bool)    -- place, where it begins, capped
  sz : Nat
  rows : List (List V)
  lab : Lab
def Lab.inner : Lab → Lab
  | .lent t => .part t
  | l => l
def St.slice (s : St) (o : O) : Option Sv := match s.opv o, o with
  | some (.one (.sl .own sz rows)), .t i => some ⟨some (Pl.ofTmp s i, 0, false), sz, rows, .own⟩
  | some (.one (.sl l sz rows)), _ => some ⟨none, sz, rows, l⟩
  | some (.al p), _ => match s.cell p with
    | some (.sl .own sz rows) => some ⟨some (p, 0, false), sz, rows, .own⟩
    | some (.sl l sz rows) => some ⟨none, sz, rows, l⟩
    | _ => none
  | some (.slb p lo hi c), _ => match s.cell p with
    | some (.sl .own sz rows) => some ⟨some (p, lo, c), sz, (rows.drop lo).take (hi - lo), .own⟩
    | some (.sl l sz rows) => if c then none else some ⟨none, sz, (rows.drop lo).take (hi - lo), l⟩
    | _ => none
  | _, _ => none
def Cx.moves (cx : Cx) (res : Bool) (p : Pl) : Bool := res || (p.path.isEmpty && decide (p.r < 5000) && !cx.named.contains p.r)
def St.takeAt (s : St) (cx : Cx) (res : Bool) (p : Pl) (r q : List V) (ag : Bool) : Option (List V × Bool × Upd × List (Nat × Nat)) :=
  if r.any V.isDead then none else
  if r.all V.noOwn then some (r, ag, [], []) else
  if cx.moves res p then (match s.put p (lowWith r (deads r) q) false with
    | some u => some (r, ag, u, [(p.r, p.path.length)])
    | none => none)
  else (match s.put p (lowWith r (roRow r) q) false with
    | some u => some (roRow r, ag, u, [(p.r, p.path.length)])
    | none => none)
def St.take (s : St) (cx : Cx) (res : Bool) (o : O) : Option (List V × Bool × Upd × List (Nat × Nat)) :=
  match s.opv o, o with
  | some (.one v), .t i => s.takeAt cx res (Pl.ofTmp s i) [v] [v] false
  | some (.agg r), .t i => s.takeAt cx res (Pl.ofTmp s i) r r true
  | some (.one v), .c _ => if v.isDead then none else some ([v], false, [], [])
  | some (.agg r), .c _ => if r.any V.isDead then none else some (r, true, [], [])
  | some (.al p), _ => match s.cell p with
    | some v => s.takeAt cx res p [v.alv] [v] false
    | none => none
  | some (.ala p n), _ => match s.cells p n.length with
    | some q => s.takeAt cx res p (mergeRow n q) q true
    | none => none
  | some (.slb p lo hi false), _ => match s.cell p with
    | some (.sl .own sz rows) => (match s.put p [.dead] false with
      | some u => some ([.sl .own sz ((rows.drop lo).take (hi - lo))], false, u, [(p.r, p.path.length)])
      | none => none)
    | _ => none
  | _, _ => none
def mkT (r : List V) (agg : Bool) : Option T := if agg then some (.agg r) else match r with
  | [v] => some (.one v)
  | _ => none
def binV (op : BinOp) : Value → Value → Option Value
  | .int k a, .int k' b =>
    match op with
    | .shl => if b < 0 then none else some (.int k (k.wrap (a * 2 ^ (min b.toNat k.bits))))
    | .shr => if b < 0 then none else some (.int k (a.fdiv (2 ^ (min b.toNat k.bits))))
    | .add => if k = k' then some (.int k (k.wrap (a + b))) else none
    | .sub => if k = k' then some (.int k (k.wrap (a - b))) else none
    | .mul => if k = k' then some (.int k (k.wrap (a * b))) else none
    | .quo => if k = k' ∧ b ≠ 0 then some (.int k (k.wrap (a.tdiv b))) else none
    | .rem => if k = k' ∧ b ≠ 0 then some (.int k (a.tmod b)) else none
    | .and => if k = k' then some (.int k (k.wrap (BitVec.ofInt k.bits a &&& BitVec.ofInt k.bits b).toNat)) else none
    | .or => if k = k' then some (.int k (k.wrap (BitVec.ofInt k.bits a ||| BitVec.ofInt k.bits b).toNat)) else none
    | .eql => if k = k' then some (.bool (a == b)) else none
    | .neq => if k = k' then some (.bool (a != b)) else none
    | .lss => if k = k' then some (.bool (decide (a < b))) else none
    | .leq => if k = k' then some (.bool (decide (a ≤ b))) else none
    | .gtr => if k = k' then some (.bool (decide (a > b))) else none
    | .geq => if k = k' then some (.bool (decide (a ≥ b))) else none
    | _ => none
  | .string a, .string b => match op with
    | .eql => some (.bool (a.toList == b.toList))
    | .neq => some (.bool (!(a.toList == b.toList)))
    | _ => none
  | _, _ => none
def unV (op : UnOp) : Value → Option Value
  | .bool b => match op with | .not => some (.bool (!b)) | _ => none
  | .int k n => match op with
    | .neg => some (.int k (k.wrap (0 - n)))
    | _ => none
  | _ => none
def eqV : V → V → Option Bool
  | .sc (.int k a), .sc (.int k' b) => if k = k' then some (a == b) else none
  | .sc (.bool a), .sc (.bool b) => some (a == b)
  | _, _ => none
def eqRow : List V → List V → Option Bool
  | [], [] => some true
  | a :: r, b :: q => match eqV a b, eqRow r q with
    | some x, some y => some (x && y)
    | _, _ => none
  | _, _ => none
def V.isBool : V → Bool
  | .sc (.bool _) => true
  | _ => false
def eqRowK : List Bool → List V → List V → Option Bool
  | [], [], [] => some true
  | k :: ks, a :: r, b :: q => if k = a.isBool then (match eqV a b, eqRowK ks r q with
    | some x, some y => some (x && y)
    | _, _ => none) else none
  | _, _, _ => none
def St.sc (s : St) (o : O) : Option Value := match s.opv o with
  | some (.one (.sc v)) => some v
  | _ => none
def St.int (s : St) (o : O) : Option Int := match s.opv o with
  | some (.one (.sc (.int _ n))) => some n
  | _ => none
def St.look (s : St) (o : O) : Option (List V) := match s.opv o with
  | some (.one v) => some [v]
  | some (.agg r) => some r
  | some (.al p) => (match s.cell p with | some v => some [v.alv] | none => none)
  | some (.ala p n) => s.merge p n
  | _ => none
def St.lookA (s : St) (o : O) : Option (List V) := match s.opv o with
  | some (.agg r) => some r
  | some (.ala p n) => s.merge p n
  | _ => none
def V.ren0 (f : Nat → Nat) : V → V
  | .ptr r o => .ptr (f r) o
  | .mref r => .mref (f r)
  | v => v
def V.ren (f : Nat → Nat) : V → V
  | .ptr r o => .ptr (f r) o
  | .mref r => .mref (f r)
  | .clo g a b => .clo g (a.map (V.ren0 f)) (b.map (V.ren0 f))
  | v => v
def St.boxRow (s : St) (r : Nat) : Option (List V) := match s.get r with
  | some (.mp r' ka va ks vs, _) => if r = r' ∧ 600000 ≤ r then some [.mp ka va ks vs] else none
  | some (.agg row, _) => if 5000 ≤ r ∧ r < 30000 then some row else none
  | _ => none
def ptrsT : T → List Nat
  | .one v => ptrsV v
  | .agg r => r.flatMap ptrsV
  | _ => []
def reach (s : St) : Nat → List Nat → List Nat → List Nat
  | 0, _, acc => acc
  | _, [], acc => acc
  | n + 1, r :: todo, acc =>
    if acc.contains r then reach s n todo acc else
    match s.boxRow r with
    | some row => reach s n (todo ++ row.flatMap ptrsV) (acc ++ [r])
    | none => reach s n todo acc
def T.ren (f : Nat → Nat) : T → T
  | .one v => .one (v.ren f)
  | .agg r => .agg (r.map (V.ren f))
  | .tup ts => .tup (ts.map fun | .one v => .one (v.ren f) | .agg r => .agg (r.map (V.ren f)) | t => t)
  | t => t
abbrev Orc := Nat → List Nat → List T → List (List V) → Option (T × List (List V))
def St.hand (s : St) (o : O) : Option (List V × Bool × Option Pl) := match s.opv o, o with
  | some (.one v), .t i => some ([v], false, some (Pl.ofTmp s i))
  | some (.agg r), .t i => some (r, true, some (Pl.ofTmp s i))
  | some (.one v), .c _ => some ([v.ro], false, none)
  | some (.agg r), .c _ => some (roRow r, true, none)
  | some (.al p), _ => (match s.cell p with | some v => some ([v.alv], false, some p) | none => none)
  | some (.ala p n), _ => (match s.merge p n with | some r => some (r, true, some p) | none => none)
  | _, _ => none
def nOwn : List V → Nat
  | [] => 0
  | .sl .own _ _ :: r => nOwn r + 1
  | _ :: r => nOwn r
def lendRow (m : Nat) : Nat → List V → List V
  | _, [] => []
  | n, .sl .own sz rows :: r => .sl (.lent n) sz (prtRows m n rows) :: lendRow m (n + 1) r
  | n, v :: r => v.up m :: lendRow m n r
def T.tops : T → List V
  | .one v => [v]
  | .agg r => r
  | .tup ts => ts.flatMap fun | .one v => [v] | .agg r => r | _ => []
  | _ => []
def homeV (m : Nat) (b : List (Nat × V)) (f : Nat → Nat) : V → V
  | .sl (.lent n) sz rows => (match b.lookup n with
    | some o => o
    | none => (V.sl (.lent n) sz rows).dn m)
  | v => (v.dn m).ren f
def homeT (m : Nat) (b : List (Nat × V)) (f : Nat → Nat) : T → T
  | .one v => .one (homeV m b f v)
  | .agg r => .agg (r.map (homeV m b f))
  | .tup ts => .tup (ts.map fun | .one v => .one (homeV m b f v) | .agg r => .agg (r.map (homeV m b f)) | t => t)
  | t => t
def settleNode (s : St) (p : Pl) (out : Bool) : Option (St × V) := match s.cell p with
  | some (.sl .own sz rows) => (match s.put p [if out then .dead else (V.sl .own sz rows).ro] false with
    | some u => some (s.upd u, .sl .own sz rows)
    | none => none)
  | _ => none
def settleRow (mv : Bool) (tops : List V) (p : Pl) : St → Nat → Nat → List V → Option (St × List (Nat × V))
  | s, _, _, [] => some (s, [])
  | s, n, k, .sl .own sz rows :: r =>
    if lentIn n tops = 0 ∧ partIn n tops = false then settleRow mv tops p s (n + 1) (k + 1) r else
    (match settleNode s (shift p k) (mv && decide (lentIn n tops = 1) && !partIn n tops) with
    | some (s1, v) => (match settleRow mv tops p s1 (n + 1) (k + 1) r with
      | some (s', back) => some (s', if mv && decide (lentIn n tops = 1) && !partIn n tops then (n, v) :: back else back)
      | none => none)
    | none => none)
  | s, n, k, _ :: r => settleRow mv tops p s n (k + 1) r
def settleAll (mv : Bool) (tops : List V) : St → Nat → List (List V × Bool × Option Pl) → Option (St × List (Nat × V))
  | s, _, [] => some (s, [])
  | s, n, (r, _, p) :: hs =>
    if nOwn r = 0 then settleAll mv tops s n hs else
    match p with
    | none => none
    | some p => (match settleRow mv tops p s n 0 r with
      | some (s1, back) => (match settleAll mv tops s1 (n + nOwn r) hs with
        | some (s', back') => some (s', back ++ back')
        | none => none)
      | none => none)
def handAll (s : St) (io : List Nat) : Nat → List O → Option (List (List V × Bool × Option Pl))
  | _, [] => some []
  | j, o :: os => match (if io.contains j then (match s.opv o with
      | some (.ala _ _) => some ([], true, none)
      | _ => some ([V.dead], false, none)) else s.hand o), handAll s io (j + 1) os with
    | some h, some hs => some (h :: hs)
    | _, _ => none
def viewAll (m : Nat) : Nat → List (List V × Bool × Option Pl) → Option (List T)
  | _, [] => some []
  | n, (r, ag, _) :: hs => match mkT (lendRow m n r) ag, viewAll m (n + nOwn r) hs with
    | some t, some ts => some (t :: ts)
    | _, _ => none
def St.whole (s : St) (p : Pl) : Option (List V) := match s.get p.r with
  | some (t, v) => if p.path = [] ∧ p.off = 0 ∧ v = p.ver then t.row? else none
  | none => none
def takeOne (s : St) (o : O) : Option (Nat × List V) := match s.opv o with
  | some (.al p) => (match s.whole p with
    | some [v] => some (p.r, [v.alv])
    | _ => none)
  | some (.ala p n) => (match s.whole p with
    | some r => if r.length = n.length then some (p.r, mergeRow n r) else none
    | none => none)
  | _ => none
def takeIo (s : St) (as : List O) : List Nat → Option (List (Nat × List V))
  | [] => some []
  | j :: js => match as[j]? with
    | some o => (match takeOne s o, takeIo s as js with
      | some x, some xs => some (x :: xs)
      | _, _ => none)
    | none => none
def putBox (r : Nat) : T → List V → Option T
  | .mp .., [.mp ka va ks vs] => some (.mp r ka va ks vs)
  | .agg o, row => if o.length = row.length then some (.agg row) else none
  | _, _ => none
def putRows (s : St) : List Nat → List (List V) → Option St
  | [], _ => some s
  | r :: rs, row :: rows => match s.get r with
    | some (t, v) => (match putBox r t row with
      | some t' => putRows (s.set r (t', v + 1)) rs rows
      | none => none)
    | none => none
  | _, [] => none
def isOwnSl : V → Bool
  | .sl .own _ _ => true
  | _ => false
def back3 : List V → List V → List V → List V
  | a :: r, b :: q, c :: u => (if isOwnSl a then c else b) :: back3 r q u
  | _, _, _ => []
def putIo (s : St) : List (Nat × List V) → List (List V) → Option St
  | [], _ => some s
  | (r, old) :: ps, row :: rows => match s.get r with
    | some (t, v) => (match t.row? with
      | some cur => if old.length = row.length ∧ old.length = cur.length then putIo (s.set r (t.back (back3 old cur row), v + 1)) ps rows else none
      | none => none)
    | none => none
  | _, [] => none
def rowsOf (s : St) : List Nat → Option (List (List V))
  | [] => some []
  | r :: rs => match s.boxRow r, rowsOf s rs with
    | some x, some xs => some (x :: xs)
    | _, _ => none
def lentRoots (hs : List (List V × Bool × Option Pl)) : List Nat := hs.flatMap fun h => if nOwn h.1 = 0 then [] else match h.2.2 with | some p => [p.r] | none => [0]
def lentTouch (hs : List (List V × Bool × Option Pl)) : List (Nat × Nat) := hs.flatMap fun h => if nOwn h.1 = 0 then [] else match h.2.2 with | some p => [(p.r, p.path.length)] | none => []
def ptrRow (r : List V) : List Nat := r.flatMap ptrsV
def intoBox (boxes : List Nat) (r : Nat) : Nat := (if 600000 ≤ r then 610000 else 10000) + boxes.idxOf r
def backBox (boxes : List Nat) (b r : Nat) : Nat := if r = 20000 then b else boxes.getD (r - (if 600000 ≤ r then 610000 else 10000)) 0
def evBack (s : St) (b : Nat) (mv : Bool) (hs : List (List V × Bool × Option Pl)) (ios : List (Nat × List V)) (boxes : List Nat) (m : Nat) (t : T) (rows : List (List V)) : Option (T × St × List (Nat × Nat)) :=
  let dn (r : List V) : List V := (mapLRow (Lab.dn m) r).map (V.ren (backBox boxes b))
  if rows.any (fun r => anyLRow (Lab.low m) r || (ptrRow r).contains 20000) then none else
  match putRows s boxes (rows.map dn) with
  | some s1 => match putIo s1 ios ((rows.drop boxes.length).map dn) with
    | some s2 => match (match rows.drop (boxes.length + ios.length) with
        | [] => some (s2, [])
        | [row] => (match s2.get b with
          | some _ => none
          | none => some (s2.set b (.agg (dn row), 0), [(b, 0)]))
        | _ => none) with
      | some (s3, new) =>
        let roots := boxes.map (fun r => (r, 0)) ++ ios.map (fun x => (x.1, 0)) ++ new
        if t.tops.any (V.anyL (Lab.low m)) = false then some (homeT m [] (backBox boxes b) t, s3, roots) else
        if !decide (lentRoots hs).Nodup then none else
        match settleAll mv t.tops s3 0 hs with
        | some (s4, lents) => some (homeT m lents (backBox boxes b) t, s4, roots ++ lentTouch hs)
        | none => none
      | none => none
    | none => none
  | none => none
def evCall (C : Orc) (cx : Cx) (s : St) (io : List Nat) (b : Nat) (mv : Bool) (f : O) (as : List O) : Option (T × St × List (Nat × Nat)) :=
  match s.opv f with
  | some (.one (.clo g [] caps)) =>
    match handAll s io 0 as, takeIo s as io with
    | some hs, some ios =>
      let m := (hs.map fun h => nOwn h.1).sum
      match viewAll m 0 hs with
      | some args =>
        let all := args ++ caps.map T.one
        let boxes := reach s 100 (all.flatMap ptrsT) []
        let ioR := ios.map fun x => x.1
        if (lentRoots hs).any (fun r => boxes.contains r || ioR.contains r) || ioR.any boxes.contains || !decide ioR.Nodup || !decide boxes.Nodup || decide (1000 < boxes.length) || boxes.any cx.held || ioR.any cx.held || cx.held b || !ios.all (fun x => x.2.all V.noPtr) || !decide io.Nodup then none else
        match rowsOf s boxes with
        | some rows =>
          if !((all.flatMap ptrsT ++ rows.flatMap ptrRow).all boxes.contains) then none else
          let up (r : List V) : List V := (mapLRow (Lab.up m) r).map (V.ren (intoBox boxes))
          match C g io (all.map (T.ren (intoBox boxes))) (rows.map up ++ ios.map fun x => up x.2) with
          | some (t, rows') => evBack s b mv hs ios boxes m t rows'
          | none => none
        | none => none
      | none => none
    | _, _ => none
  | _ => none
def takeL (s : St) (cx : Cx) : List O → Option (List (List V) × St × List (Nat × Nat))
  | [] => some ([], s, [])
  | o :: os => match s.take cx false o with
    | some (r, _, u, m0) => (match takeL (s.upd u) cx os with
      | some (rs, s', m) => some (r :: rs, s', m0 ++ m)
      | none => none)
    | none => none
def buildRow (zero : List V) : List (Nat × Nat) → List (List V) → Option (List V)
  | [], [] => some zero
  | (off, n) :: ps, r :: rs => if r.length = n ∧ off + n ≤ zero.length then buildRow (splice zero off r) ps rs else none
  | _, _ => none
def buildRows (acc : List (List V)) : List Nat → List (List V) → Option (List (List V))
  | [], [] => some acc
  | i :: is, r :: rs => if i < acc.length then buildRows (acc.set i r) is rs else none
  | _, _ => none
def mapFind (k : List V) : List (List V) → List (List V) → Option (Option (List V))
  | [], _ => some none
  | a :: ks, b :: vs => match eqRow k a with
    | some true => some (some b)
    | some false => mapFind k ks vs
    | none => none
  | _, _ => none
def mapSet (k v : List V) : List (List V) → List (List V) → Option (List (List V) × List (List V))
  | [], [] => some ([k], [v])
  | a :: ks, b :: vs => match eqRow k a with
    | some true => some (k :: ks, v :: vs)
    | some false => (match mapSet k v ks vs with
      | some (x, y) => some (a :: x, b :: y)
      | none => none)
    | none => none
  | _, _ => none
def St.mapOf (s : St) (o : O) : Option (Nat × Bool × Bool × List (List V) × List (List V) × Nat) := match s.opv o with
  | some (.one (.mref r)) => (match s.get r with
    | some (.mp _ ka va ks vs, v) => some (r, ka, va, ks, vs, v)
    | _ => none)
  | _ => none
def St.flat (s : St) (ag : Bool) (o : O) : Option (List V) := if ag then (match s.lookA o with
  | some r => if r.all V.isSc then some r else none
  | none => none) else (match s.sc o with
  | some v => some [.sc v]
  | none => none)
def addrPl (s : St) (o : O) : Option Pl := match s.opv o with
  | some (.one (.ptr r k)) => some ⟨r, k, [], s.ver r⟩
  | some (.ad p) => some p
  | _ => none
def alOf (v : V) (p : Pl) : Option T := match v with
  | .dead => none
  | v => some (if v.noOwn then .one v else .al p)
def V.stub : V → V
  | .sl .own sz _ => .sl .own sz []
  | v => v
def alaOf (r : List V) (p : Pl) : T := if r.all V.noOwn then .agg r else .ala p (r.map V.stub)
def T.solid : T → Bool
  | .one _ => true
  | .agg _ => true
  | _ => false
def T.isAgg : T → Bool
  | .agg _ => true
  | _ => false
def St.takePart (s : St) (cx : Cx) (d i : Nat) : Option (T × Upd × List (Nat × Nat)) := match s.get (tupAt d i) with
  | some (t, v) => (match t.row? with
    | some r => (match s.takeAt cx true ⟨tupAt d i, 0, [], v⟩ r r t.isAgg with
      | some (r', ag, u, m) => (match mkT r' ag with
        | some t' => some (t', u, m)
        | none => none)
      | none => none)
    | none => none)
  | none => none
def takeTup (cx : Cx) (d : Nat) : St → Nat → Nat → Option (List T × St × List (Nat × Nat))
  | s, _, 0 => some ([], s, [])
  | s, i, n + 1 => match s.takePart cx d i with
    | some (t, u, m) => (match takeTup cx d (s.upd u) (i + 1) n with
      | some (ts, s', M) => some (t :: ts, s', m ++ M)
      | none => none)
    | none => none
def evIns (C : Orc) (cx : Cx) (s : St) : K → List O → Option (T × St × List (Nat × Nat))
  | .move, [x] => match s.opv x, x with
    | some (.tup ts), .t i => if 100 < ts.length then none else (match takeTup cx i s 0 ts.length with
      | some (us, s', M) => some (.tup us, s', M)
      | none => none)
    | some (.mp ..), _ => none
    | some (.one v), .t i => some (if v.noOwn then .one v else .al (Pl.ofTmp s i), s, [])
    | some (.agg r), .t i => some (alaOf r (Pl.ofTmp s i), s, [])
    | some t, _ => some (t, s, [])
    | none, _ => none
  | .assign res, [x] => match s.opv x with
    | some (.rad r o) => some (.rad r o, s, [])
    | some (.ad p) => some (.ad p, s, [])
    | _ => match s.take cx res x with
      | some (r, ag, u, m) => (match mkT r ag with
        | some t => some (t, s.upd u, m)
        | none => none)
      | none => none
  | .pick, [c, a, b] => match s.sc c with
    | some (.bool true) => (match s.sc a with | some v => some (.one (.sc v), s, []) | none => none)
    | some (.bool false) => (match s.sc b with | some v => some (.one (.sc v), s, []) | none => none)
    | _ => none
  | .bin op, [x, y] => match s.sc x, s.sc y with
    | some a, some b => (match binV op a b with | some v => some (.one (.sc v), s, []) | none => none)
    | _, _ => none
  | .binB neg, [x, y] => match s.sc x, s.sc y with
    | some (.bool a), some (.bool b) => some (.one (.sc (.bool (if neg then !(a == b) else a == b))), s, [])
    | _, _ => none
  | .eq neg ks, [x, y] => match s.lookA x, s.lookA y with
    | some a, some b => (match eqRowK ks a b with | some t => some (.one (.sc (.bool (if neg then !t else t))), s, []) | none => none)
    | _, _ => none
  | .un op, [x] => match s.sc x with
    | some a => (match unV op a with | some v => some (.one (.sc v), s, []) | none => none)
    | none => none
  | .conv k, [x] => match s.sc x with
    | some (.int _ n) => some (.one (.sc (.int k (k.wrap n))), s, [])
    | _ => none
  | .alloc b zero, [] => if cx.held b then none else match s.get b with
    | none => some (.one (.ptr b 0), s.set b (.agg zero, 0), [(b, 0)])
    | some _ => none
  | .box b, [x] => if cx.boxBad b x then none else match s.take cx true x with
    | some (r, _, u, m) => (match (s.upd u).get b with
      | none => some (.one (.ptr b 0), (s.upd u).set b (.agg r, 0), (b, 0) :: m)
      | some _ => none)
    | none => none
  | .fld off, [x] => match s.opv x with
    | some (.one (.ptr r o)) => some (.one (.ptr r (o + off)), s, [])
    | some (.ad p) => if (s.place p).isSome then some (.ad (shift p off), s, []) else none
    | some (.rad r o) => some (.rad r (o + off), s, [])
    | _ => none
  | .ida sz, [x, i] => match s.int i, s.slice x with
    | some n, some v => if sz = v.sz ∧ 0 ≤ n ∧ n < v.rows.length then (match v.p with
        | some (p, lo, _) => some (.ad { p with path := p.path ++ [(lo + n.toNat, sz, 0)] }, s, [])
        | none => match v.rows[n.toNat]? with | some r => some (.rad r 0, s, []) | none => none) else none
    | _, _ => none
  | .idarr len sz, [x, i] => match s.int i, s.opv x with
    | some n, some t => if 0 ≤ n ∧ n < len then (match t with
        | .one (.ptr r o) => some (.one (.ptr r (o + n.toNat * sz)), s, [])
        | .ad p => if (s.place p).isSome then some (.ad (shift p (n.toNat * sz)), s, []) else none
        | .rad r o => some (.rad r (o + n.toNat * sz), s, [])
        | _ => none) else none
    | _, _ => none
  | .load none, [x] => match s.opv x with
    | some (.rad r o) => (match r[o]? with | some v => some (.one v, s, []) | none => none)
    | _ => match addrPl s x with
      | some p => (match s.cell p with
        | some v => (match alOf v p with | some t => some (t, s, []) | none => none)
        | none => none)
      | none => none
  | .load (some n), [x] => match s.opv x with
    | some (.rad r o) => if o + n ≤ r.length then some (.agg ((r.drop o).take n), s, []) else none
    | _ => match addrPl s x with
      | some p => (match s.cells p n with | some r => some (alaOf r p, s, []) | none => none)
      | none => none
  | .store res n, [a, x] => match s.take cx res x with
    | some (r, _, u, m) => (match addrPl (s.upd u) a with
      | some p =>
        if r.length ≠ n then none else
        if p.path.isEmpty && cx.held p.r then none else
        if !p.path.isEmpty && !r.all V.noPtr then none else
        (match (s.upd u).cells p n with
        | some old => (match (s.upd u).put p r (!(r.all V.isSc && old.all V.isSc)) with
          | some u2 => some (.one .dead, (s.upd u).upd u2, m ++ [(p.r, 0)])
          | none => none)
        | none => none)
      | none => none)
    | none => none
  | .fieldV off none, [x] => match s.opv x, x with
    | some (.agg r), .t i => (match r[off]? with
      | some v => (match alOf v { Pl.ofTmp s i with off := off } with | some t => some (t, s, []) | none => none)
      | none => none)
    | some (.ala p m), _ => match m[off]? with
      | some v => (match alOf v (shift p off) with | some t => some (t, s, []) | none => none)
      | none => none
    | _, _ => none
  | .fieldV off (some n), [x] => match s.opv x, x with
    | some (.agg r), .t i => if off + n ≤ r.length then some (alaOf ((r.drop off).take n) { Pl.ofTmp s i with off := off }, s, []) else none
    | some (.ala p m), _ => if off + n ≤ m.length then some (alaOf ((m.drop off).take n) (shift p off), s, []) else none
    | _, _ => none
  | .idxV len sz n, [x, i] => match s.lookA x, s.int i with
    | some r, some k => if 0 ≤ k ∧ k < len then (match n with
      | none => (match r[k.toNat * sz]? with | some v => if v.noOwn then some (.one v, s, []) else none | none => none)
      | some n =>
        let q := (r.drop (k.toNat * sz)).take n
        if q.length = n ∧ q.all V.noOwn = true then some (.agg q, s, []) else none) else none
    | _, _ => none
  | .idxS, [x, i] => match s.sc x, s.int i with
    | some (.string b), some k => if 0 ≤ k then (match b.data[k.toNat]? with
      | some c => some (.one (.sc (.int .u8 c.toNat)), s, [])
      | none => none) else none
    | _, _ => none
  | .build zero parts, xs => match takeL s cx xs with
    | some (rs, s', m) => (match buildRow zero parts rs with | some r => some (.agg r, s', m) | none => none)
    | none => none
  | .bsl sz zero len parts, xs => match takeL s cx xs with
    | some (rs, s', m) =>
      if rs.all (fun r => decide (r.length = sz) && r.all V.noPtr) && decide (zero.length = sz) then
        (match buildRows (List.replicate len zero) parts rs with | some q => some (.one (.sl .own sz q), s', m) | none => none)
      else none
    | none => none
  | .mks sz zero bytes, [n, m] => match s.int n, s.int m with
    | some a, some b => if a = b ∧ 0 ≤ a ∧ a * bytes ≤ 2 ^ 47 ∧ zero.length = sz then some (.one (.sl .own sz (List.replicate a.toNat zero)), s, []) else none
    | _, _ => none
  | .slc sz lo hi max, x :: bs => match s.slice x, bs.mapM s.int with
    | some v, some is =>
      if v.sz ≠ sz then none else
      let l := if lo then is.getD 0 0 else 0
      let h := if hi then is.getD (if lo then 1 else 0) 0 else (v.rows.length : Int)
      if (max && is.getD (if lo then 2 else 1) 0 != h) then none else
      if 0 ≤ l ∧ l ≤ h ∧ h ≤ v.rows.length then (match v.p with
        | some (p, 0, false) => some (.slb p l.toNat h.toNat max, s, [])
        | some _ => none
        | none => if max then none else some (.one (.sl v.lab.inner v.sz ((v.rows.drop l.toNat).take (h.toNat - l.toNat))), s, [])) else none
    | _, _ => none
  | .app sz bytes, [x, y] => match s.slice y with
    | some vy =>
      if sz ≠ vy.sz ∨ (vy.rows.any fun r => r.any V.isDead) = true then none else
      (match (if vy.rows.all (fun r => r.all V.noOwn) then some (s, []) else match vy.p with
        | some (p, 0, false) => if cx.moves false p then (match s.put p [.dead] false with | some u => some (s.upd u, [(p.r, p.path.length)]) | none => none) else none
        | _ => none) with
      | some (s1, m1) => (match s1.slice x with
        | some vx =>
          if sz ≠ vx.sz ∨ (vx.rows.length + vy.rows.length) * bytes > 2 ^ 47 then none else
          (match vx.p, x with
          | some (p, _, _), _ => (match s1.put p [.dead] false with
            | some u => some (.one (.sl .own sz (vx.rows ++ vy.rows)), s1.upd u, (p.r, p.path.length) :: m1)
            | none => none)
          | none, .c _ => some (.one (.sl .own sz (vx.rows ++ vy.rows)), s1, m1)
          | none, .t _ => none)
        | none => none)
      | none => none)
    | none => none
  | .len, [x] => match s.slice x with
    | some v => some (.one (.sc (.int .i64 v.rows.length)), s, [])
    | none => none
  | .lenS, [x] => match s.sc x with
    | some (.string b) => some (.one (.sc (.int .i64 b.size)), s, [])
    | _ => none
  | .lenM, [x] => match s.mapOf x with
    | some (_, _, _, ks, _, _) => some (.one (.sc (.int .i64 ks.length)), s, [])
    | none => none
  | .lenC n, [_] => some (.one (.sc (.int .i64 n)), s, [])
  | .mn, [x, y] => match s.sc x, s.sc y with
    | some (.int .i64 a), some (.int .i64 b) => some (.one (.sc (.int .i64 (if b < a then b else a))), s, [])
    | _, _ => none
  | .mx, [x, y] => match s.sc x, s.sc y with
    | some (.int .i64 a), some (.int .i64 b) => some (.one (.sc (.int .i64 (if b > a then b else a))), s, [])
    | _, _ => none
  | .call io b mv, f :: as => evCall C cx s io b mv f as
  | .ext i, [.t j] => match s.takePart cx j i with
    | some (t, u, m) => some (t, s.upd u, m)
    | none => none
  | .mkf f n, xs => match xs.mapM (fun o => match s.opv o with
      | some (.one (.ptr r o)) => some (V.ptr r o)
      | some (.one (.mref r)) => some (V.mref r)
      | some (.one (.sc v)) => some (V.sc v)
      | _ => none) with
    | some vs => some (.one (.clo f (vs.take n) (vs.drop n)), s, [])
    | none => none
  | .nilchk, [x] => match s.opv x with
    | some (.one (.ptr r o)) => some (.one (.ptr r o), s, [])
    | some (.one (.clo f a b)) => some (.one (.clo f a b), s, [])
    | some (.ad p) => if (s.place p).isSome then some (.ad p, s, []) else none
    | some (.rad r o) => some (.rad r o, s, [])
    | _ => none
  | .mkm b ka va, [] => match s.get b with
    | none => some (.one (.mref b), s.set b (.mp b ka va [] [], 0), [(b, 0)])
    | some _ => none
  | .mset, [m, k, x] => match s.mapOf m with
    | some (r, ka, va, ks, vs, v) => (match s.flat ka k, s.flat va x with
      | some kr, some xr => (match mapSet kr xr ks vs with
        | some (ks', vs') => some (.one .dead, s.set r (.mp r ka va ks' vs', v + 1), [(r, 0)])
        | none => none)
      | _, _ => none)
    | none => none
  | .mget zero ok, [m, k] => match s.mapOf m with
    | some (_, ka, va, ks, vs, _) => (match s.flat ka k with
      | some kr => (match mapFind kr ks vs with
        | some r => (match mkT (r.getD zero) va with
          | some t => some (if ok then .tup [t, .one (.sc (.bool r.isSome))] else t, s, [])
          | none => none)
        | none => none)
      | none => none)
    | none => none
  | _, _ => none
def relT : T → List Nat
  | .al p => [p.r]
  | .ala p _ => [p.r]
  | .slb p _ _ _ => [p.r]
  | .ad p => [p.r]
  | _ => []
def K.derefs : K → Bool
  | .load _ | .store _ _ | .mset | .mget _ _ | .lenM => true
  | _ => false
def K.still : K → Bool
  | .move | .mkf _ _ | .fld _ => true
  | _ => false
def rel (s : St) (k : K) (xs : List O) : List Nat :=
  let ts := xs.flatMap O.tmp
  match k with
  | .ext i => ts.map fun j => tupAt j i
  | .move => ts ++ ts.flatMap fun j => match s.get j with
    | some (.tup us, _) => (List.range us.length).map (tupAt j)
    | _ => []
  | _ =>
  if k.still then ts else
  let rs := ts.flatMap fun i => match s.get i with
    | some (t, _) => relT t ++ if k.derefs then ptrsT t else []
    | none => []
  match k with
  | .call _ _ _ =>
    let bs := reach s 100 (ts.flatMap fun i => match s.get i with | some (t, _) => ptrsT t | none => []) []
    ts ++ rs ++ bs
  | _ => ts ++ rs
structure Fp where
  rd : List (Nat × Option Nat)
  wr : List (Nat × Nat)
def K.shallow : K → Bool
  | .load _ | .ida _ => true
  | _ => false
def depthT : T → Nat
  | .al p => p.path.length
  | .ala p _ => p.path.length
  | .slb p _ _ _ => p.path.length
  | .ad p => p.path.length
  | _ => 0
def depthOf (s : St) (k : K) (xs : List O) : Option Nat :=
  if k.shallow then some ((xs.flatMap O.tmp).foldl (fun n i => match s.get i with | some (t, _) => max n (depthT t) | none => n) 0) else none
def putTup (s : St) (d : Nat) : Nat → List T → St
  | _, [] => s
  | i, t :: ts => putTup (s.set (tupAt d i) (t, 0)) d (i + 1) ts
def St.drop (s : St) (d : Nat) : St := s.filter fun x => !(decide (30000 ≤ x.1) && decide ((x.1 - 30000) / 100 = d))
def putDst (s : St) (dst : Option Nat) (t : T) : St := match dst with
  | some d => match t with
    | .tup ts => putTup ((s.drop d).set d (s.new d (.tup (ts.map fun _ => .one .dead))).2) d 0 ts
    | _ => (s.drop d).set d (s.new d t).2
  | none => s
def partsOf (s : St) (d : Nat) : List (Nat × Nat) := (s.filter fun x => decide (30000 ≤ x.1) && decide ((x.1 - 30000) / 100 = d)).map fun x => (x.1, 0)
def dstRoots (s : St) (dst : Option Nat) (t : T) : List (Nat × Nat) := match dst with
  | some d => (d, 0) :: (partsOf s d ++ match t with
    | .tup ts => (List.range ts.length).map fun i => (tupAt d i, 0)
    | _ => [])
  | none => []
def evDo (C : Orc) (cx : Cx) (s : St) (i : Ins) (gs : List (Nat × Option Nat)) : Option (St × Fp) :=
  match evIns C cx s i.k i.xs with
  | some (t, s', M) => some (putDst s' i.dst t, ⟨gs ++ (rel s i.k i.xs).map fun r => (r, depthOf s i.k i.xs), M ++ dstRoots s' i.dst t⟩)
  | none => none
def Cx.pinned (cx : Cx) (dst : Option Nat) : Bool := match dst with
  | some d => cx.pin.any (fun x => x.1 == d || x.2 == d)
  | none => false
def evOp (C : Orc) (cx : Cx) (s : St) (i : Ins) : Option (St × Fp) :=
  if cx.pinned i.dst then none else
  match i.grd with
  | none => evDo C cx s i []
  | some (g, w) => match s.get g with
    | some (.one (.sc (.bool b)), _) => if b = w then evDo C cx s i [(g, none)] else some (putDst s i.dst (.tup []), ⟨[(g, none)], dstRoots s i.dst (.tup [])⟩)
    | some (.tup [], _) => some (putDst s i.dst (.tup []), ⟨[(g, none)], dstRoots s i.dst (.tup [])⟩)
    | _ => none
def evOps (C : Orc) (cx : Cx) : List Ins → St → Option (St × List Fp)
  | [], s => some (s, [])
  | i :: is, s => match evOp C cx s i with
    | some (s', f) => (match evOps C cx is s' with
      | some (s'', fs) => some (s'', f :: fs)
      | none => none)
    | none => none
def St.restr (s : St) (K : List Nat) : St := K.filterMap fun k => (s.get k).map fun x => (k, x)
def St.lay (o s : St) : St := o.foldr (fun x s => s.set x.1 x.2) s
def St.mix (s : St) (W : List Nat) (o : St) : St := St.lay (o.filter fun x => W.contains x.1) (s.filter fun x => !W.contains x.1)
def V.hdOf : V → Nat
  | .sl .own _ _ => 2
  | .mp .. => 1
  | _ => 0
def simO : Option Slot → Option Slot → Bool
  | some (.agg r, v), some (.agg q, u) => v == u && r.map V.hdOf == q.map V.hdOf
  | _, _ => false
def softLoad (i : Ins) (o : St) : Bool := (match i.k with | .load none => true | _ => false) && i.grd.isNone && (match i.dst with
  | some d => (match o.get d with
    | some (.al p, _) => p.path.isEmpty
    | _ => false)
  | none => false)
def evDrw (C : Orc) (cx : Cx) : List Ins → List Hint → St → Option (List St × St)
  | [], [], s => some ([], s)
  | i :: is, h :: hs, s => match evOp C cx (s.restr (h.kd ++ h.ks)) i with
    | some (o, f) => if f.wr.all (fun x => h.w.contains x.1) && h.soft.all (fun k => simO (s.get k) (o.get k)) && (h.ks.isEmpty || softLoad i o) then
        (match evDrw C cx is hs (s.mix h.w o) with
        | some (os, s') => some (o :: os, s')
        | none => none) else none
    | none => none
  | _, _, _ => none
def St.clear (s : St) (is : List Ins) : St := s.filter fun x => !(decide (30000 ≤ x.1) && is.any fun i => i.dst == some ((x.1 - 30000) / 100))
inductive Ex where
  | nrm | exit (id : Nat) | ret
deriving DecidableEq
def normT (s : St) : T → T
  | .al p => if (s.get p.r).any fun x => x.2 == p.ver then .al { p with ver := 0 } else .one .dead
  | .ala p n => if (s.get p.r).any fun x => x.2 == p.ver then .ala { p with ver := 0 } n else .one .dead
  | .slb p a b c => if (s.get p.r).any fun x => x.2 == p.ver then .slb { p with ver := 0 } a b c else .one .dead
  | .ad p => if (s.get p.r).any fun x => x.2 == p.ver then .ad { p with ver := 0 } else .one .dead
  | .tup _ => .one .dead
  | t => t
def norm (s : St) : St := s.map fun x => (x.1, normT s x.2.1, 0)
def evCode (C : Orc) (cx : Cx) : Nat → Cd → St → Option (Ex × St)
  | 0, _, _ => none
  | n + 1, c, s => match c with
    | .skip => some (.nrm, s)
    | .reg ops live => match evOps C cx ops s with
      | some (s', _) => some (.nrm, s'.keep live)
      | none => none
    | .drw ops hs live => match evDrw C cx ops hs (s.clear ops) with
      | some (_, s') => some (.nrm, s'.keep live)
      | none => none
    | .seq a b => match evCode C cx n a s with
      | some (.nrm, s') => evCode C cx n b s'
      | r => r
    | .cond c a b => match s.sc c with
      | some (.bool true) => evCode C cx n a s
      | some (.bool false) => evCode C cx n b s
      | _ => none
    | .block id b => match evCode C cx n b s with
      | some (.exit j, s') => some (if j = id then .nrm else .exit j, s')
      | r => r
    | .loop live b => match evCode C cx n b (norm (s.keep live)) with
      | some (.nrm, s') => evCode C cx n (.loop live b) s'
      | r => r
    | .exit id => some (.exit id, s)
    | .ret => some (.ret, s)
    | .clone x d sz bytes => match s.slice (.t x) with
      | some v => if v.sz = sz ∧ v.p.isNone ∧ v.rows.length * bytes ≤ 2 ^ 47 then some (.ret, s.set d (.one (.sl .own sz v.rows), s.ver d + 1)) else none
      | none => none
    | .bad _ => none
def readRes (s : St) (cx : Cx) : Rs → Option (T × St)
  | .t i => match s.take cx true (.t i) with
    | some (r, ag, u, _) => (match mkT r ag with | some t => some (t, s.upd u) | none => none)
    | none => none
  | .c a n => match s.get a with
    | some (.one (.ptr r o), _) =>
      let p : Pl := ⟨r, o, [], s.ver r⟩
      (match n with
      | none => (match s.cell p with
        | some v => (match s.takeAt cx true p [v] [v] false with | some (r, ag, u, _) => (match mkT r ag with | some t => some (t, s.upd u) | none => none) | none => none)
        | none => none)
      | some n => (match s.cells p n with
        | some q => (match s.takeAt cx true p q q true with | some (r, ag, u, _) => (match mkT r ag with | some t => some (t, s.upd u) | none => none) | none => none)
        | none => none))
    | _ => none
def readAll (s : St) (cx : Cx) : List Rs → Option (List T × St)
  | [] => some ([], s)
  | r :: rs => match readRes s cx r with
    | some (t, s') => (match readAll s' cx rs with | some (ts, s'') => some (t :: ts, s'') | none => none)
    | none => none
def extAt (j : Nat) : List V → Nat
  | [.mp ..] => 610000 + j
  | _ => 10000 + j
def extRows (s : St) : Nat → List (List V) → Option (List (List V))
  | _, [] => some []
  | j, r :: rs => match s.boxRow (extAt j r), extRows s (j + 1) rs with
    | some x, some xs => some (x :: xs)
    | _, _ => none
def extT (j : Nat) : List V → T
  | [.mp ka va ks vs] => .mp (610000 + j) ka va ks vs
  | r => .agg r
def startArgs : Nat → List T → St
  | _, [] => []
  | i, t :: ts => (i, t, 0) :: startArgs (i + 1) ts
def startExt : Nat → List (List V) → St
  | _, [] => []
  | j, r :: rs => (extAt j r, extT j r, 0) :: startExt (j + 1) rs
def startIo (s : St) : List (Nat × Nat × Bool) → List (List V) → Option St
  | [], [] => some s
  | (i, _, ag) :: io, r :: rs => match mkT r ag with
    | some t => startIo (s.set i (t, 0)) io rs
    | none => none
  | _, _ => none
def ioOut (s : St) : List (Nat × Nat × Bool) → List (List V) → Option (List (List V))
  | (i, r, ag) :: io, r0 :: rs => match s.get r, ioOut s io rs with
    | some x, some xs => (match x.1.row? with
      | some row => if (r != i || x.1.isAgg == ag) && row.length == r0.length && (ag || r0.all fun v => !v.isDead) then some (row :: xs) else none
      | none => none)
    | _, _ => none
  | [], [] => some []
  | _, _ => none
def isExt (x : Nat) : Bool := decide (610000 ≤ x) || decide (10000 ≤ x) && decide (x < 30000)
def okPtr (r : List V) : Bool := (r.flatMap ptrsV).all isExt
def evFn (C : Orc) (n : Nat) (fn : Fn) (io : List Nat) (args : List T) (ext : List (List V)) : Option (T × List (List V)) :=
  let nb := ext.length - fn.io.length
  let cx : Cx := ⟨fn.named, fn.io.map fun x => (x.1, x.2.1)⟩
  if args.length ≠ fn.nparams ∨ io ≠ fn.io.map (fun x => x.1) ∨ (fn.io.all fun x => match args[x.1]? with | some (.agg _) => x.2.2 | some (.one _) => !x.2.2 | _ => false) = false then none else
  match startIo (startArgs 0 args ++ startExt 0 (ext.take nb)) fn.io (ext.drop nb) with
  | some s0 => match evCode C cx n fn.code s0 with
    | some (.exit _, _) => none
    | some (_, s) => match readAll s cx fn.results with
      | some (ts, s') => match extRows s' 0 (ext.take nb), ioOut s' fn.io (ext.drop nb) with
        | some e1, some e2 =>
          if !(e1 ++ e2).all okPtr then none else
          (match ts with
          | [.one (.ptr r o)] =>
            if r < 10000 then (match (if fn.io.any (fun x => x.2.1 == r) then none else s'.boxRow r) with
              | some row => if okPtr row then some (.one (.ptr 20000 o), e1 ++ e2 ++ [row]) else none
              | none => none)
            else if isExt r then some (.one (.ptr r o), e1 ++ e2) else none
          | [t] => if (ptrsT t).all isExt then some (t, e1 ++ e2) else none
          | ts => if 100 < ts.length then none else if (ts.flatMap ptrsT).all isExt then some (.tup ts, e1 ++ e2) else none)
        | _, _ => none
      | none => none
    | none => none
  | none => none
def evN (P : Nat → Option Fn) : Nat → Orc
  | 0 => fun _ _ _ _ => none
  | n + 1 => fun f io args ext => match P f with
    | some fn => evFn (evN P n) n fn io args ext
    | none => none
end Pv

set_option linter.unusedVariables false
namespace Pv
open Go
def EvF (T : Nat → Option Fn) (f : Nat) (io : List Nat) (args : List Pv.T) (ext : List (List V)) (r : Pv.T × List (List V)) : Prop := ∃ n0, ∀ n, n0 ≤ n → evN T n f io args ext = some r
def EvC (T : Nat → Option Fn) (cx : Cx) (c : Cd) (s : St) (r : Ex × St) : Prop := ∃ n0, ∀ m n, n0 ≤ m → n0 ≤ n → evCode (evN T m) cx n c s = some r
def EvO (T : Nat → Option Fn) (cx : Cx) (ops : List Ins) (s s2 : St) : Prop := ∃ n0, ∀ m, n0 ≤ m → ∃ fs, evOps (evN T m) cx ops s = some (s2, fs)
section
variable {T : Nat → Option Fn} {cx : Cx} {s s1 s2 : St} {r : Ex × St}
theorem EvC.skip : EvC T cx .skip s (.nrm, s) := ⟨1, fun m n hm hn => by cases n with | zero => omega | succ n => simp [evCode]⟩
theorem EvC.ret : EvC T cx .ret s (.ret, s) := ⟨1, fun m n hm hn => by cases n with | zero => omega | succ n => simp [evCode]⟩
theorem EvC.exit {id : Nat} : EvC T cx (.exit id) s (.exit id, s) := ⟨1, fun m n hm hn => by cases n with | zero => omega | succ n => simp [evCode]⟩
theorem EvC.reg {ops : List Ins} {live : List Nat} (h : EvO T cx ops s s2) : EvC T cx (.reg ops live) s (.nrm, s2.keep live) := by
  obtain ⟨a, h⟩ := h
  refine ⟨a + 1, fun m n hm hn => ?_⟩
  cases n with
  | zero => omega
  | succ n =>
    obtain ⟨fs, h⟩ := h m (by omega)
    simp only [evCode, h]
theorem EvC.seq {a b : Cd} (h : EvC T cx a s (.nrm, s1)) (k : EvC T cx b s1 r) : EvC T cx (.seq a b) s r := by
  obtain ⟨x, h⟩ := h
  obtain ⟨y, k⟩ := k
  refine ⟨x + y + 1, fun m n hm hn => ?_⟩
  cases n with
  | zero => omega
  | succ n => simp only [evCode, h m n (by omega) (by omega), k m n (by omega) (by omega)]
theorem EvC.seq_exit {a b : Cd} {ex : Ex} (h : EvC T cx a s (ex, s1)) (hx : ex ≠ .nrm) : EvC T cx (.seq a b) s (ex, s1) := by
  obtain ⟨x, h⟩ := h
  refine ⟨x + 1, fun m n hm hn => ?_⟩
  cases n with
  | zero => omega
  | succ n =>
    simp only [evCode, h m n (by omega) (by omega)]
    cases ex with
    | nrm => exact absurd rfl hx
    | exit id => rfl
    | ret => rfl
theorem EvC.cond {c : O} {a b : Cd} {v : Bool} (hc : s.sc c = some (.bool v)) (h : EvC T cx (if v then a else b) s r) : EvC T cx (.cond c a b) s r := by
  obtain ⟨x, h⟩ := h
  refine ⟨x + 1, fun m n hm hn => ?_⟩
  cases n with
  | zero => omega
  | succ n =>
    have := h m n (by omega) (by omega)
    cases v <;> simpa [evCode, hc] using this
theorem EvC.block {id : Nat} {b : Cd} {ex : Ex} (h : EvC T cx b s (ex, s1)) : EvC T cx (.block id b) s ((match ex with | .exit j => if j = id then .nrm else .exit j | e => e), s1) := by
  obtain ⟨x, h⟩ := h
  refine ⟨x + 1, fun m n hm hn => ?_⟩
  cases n with
  | zero => omega
  | succ n =>
    simp only [evCode, h m n (by omega) (by omega)]
    cases ex <;> rfl
theorem EvC.loop_out {l : List Nat} {b : Cd} {ex : Ex} (h : EvC T cx b (norm (s.keep l)) (ex, s1)) (hx : ex ≠ .nrm) : EvC T cx (.loop l b) s (ex, s1) := by
  obtain ⟨x, h⟩ := h
  refine ⟨x + 1, fun m n hm hn => ?_⟩
  cases n with
  | zero => omega
  | succ n =>
    simp only [evCode, h m n (by omega) (by omega)]
    cases ex with
    | nrm => exact absurd rfl hx
    | exit id => rfl
    | ret => rfl
theorem EvC.loop_in {l : List Nat} {b : Cd} (h : EvC T cx b (norm (s.keep l)) (.nrm, s1)) (k : EvC T cx (.loop l b) s1 r) : EvC T cx (.loop l b) s r := by
  obtain ⟨x, h⟩ := h
  obtain ⟨y, k⟩ := k
  refine ⟨x + y + 1, fun m n hm hn => ?_⟩
  cases n with
  | zero => omega
  | succ n => simp only [evCode, h m n (by omega) (by omega), k m n (by omega) (by omega)]
end
end Pv
namespace Pv
open Go
section
variable {T : Nat → Option Fn} {cx : Cx} {s s1 s2 : St} {r : Ex × St}
def Ev1 (T : Nat → Option Fn) (cx : Cx) (i : Ins) (s s2 : St) : Prop := ∃ n0, ∀ m, n0 ≤ m → ∃ f, evOp (evN T m) cx s i = some (s2, f)
theorem EvO.nil : EvO T cx [] s s := ⟨0, fun m _ => ⟨[], rfl⟩⟩
theorem EvO.cons {i : Ins} {is : List Ins} (h : Ev1 T cx i s s1) (k : EvO T cx is s1 s2) : EvO T cx (i :: is) s s2 := by
  obtain ⟨x, h⟩ := h
  obtain ⟨y, k⟩ := k
  refine ⟨x + y, fun m hm => ?_⟩
  obtain ⟨f, h⟩ := h m (by omega)
  obtain ⟨fs, k⟩ := k m (by omega)
  exact ⟨f :: fs, by simp only [evOps, h, k]⟩
theorem Ev1.of {i : Ins} {f : Fp} (h : ∀ C, evOp C cx s i = some (s2, f)) : Ev1 T cx i s s2 := ⟨0, fun m _ => ⟨f, h _⟩⟩
def EvD (T : Nat → Option Fn) (cx : Cx) (is : List Ins) (hs : List Hint) (s s2 : St) : Prop := ∃ n0, ∀ m, n0 ≤ m → ∃ os, evDrw (evN T m) cx is hs s = some (os, s2)
theorem EvC.drw {ops : List Ins} {hs : List Hint} {live : List Nat} (h : EvD T cx ops hs (s.clear ops) s2) : EvC T cx (.drw ops hs live) s (.nrm, s2.keep live) := by
  obtain ⟨a, h⟩ := h
  refine ⟨a + 1, fun m n hm hn => ?_⟩
  cases n with
  | zero => omega
  | succ n =>
    obtain ⟨os, h⟩ := h m (by omega)
    simp only [evCode, h]
theorem EvD.nil : EvD T cx [] [] s s := ⟨0, fun m _ => ⟨[], rfl⟩⟩
theorem EvD.cons {i : Ins} {is : List Ins} {h : Hint} {hs : List Hint} {o : St} (k1 : ∃ n0, ∀ m, n0 ≤ m → ∃ f, evOp (evN T m) cx (s.restr (h.kd ++ h.ks)) i = some (o, f) ∧ f.wr.all (fun x => h.w.contains x.1) = true)
    (k2 : h.soft.all (fun k => simO (s.get k) (o.get k)) = true) (k3 : (h.ks.isEmpty || softLoad i o) = true) (k : EvD T cx is hs (s.mix h.w o) s2) : EvD T cx (i :: is) (h :: hs) s s2 := by
  obtain ⟨x, k1⟩ := k1
  obtain ⟨y, k⟩ := k
  refine ⟨x + y, fun m hm => ?_⟩
  obtain ⟨f, e1, e2⟩ := k1 m (by omega)
  obtain ⟨os, e⟩ := k m (by omega)
  exact ⟨o :: os, by simp only [evDrw, e1, e2, k2, k3, e, Bool.and_self, if_true]⟩
theorem EvF.of {f : Nat} {fn : Fn} {io : List Nat} {args : List Pv.T} {ext : List (List V)} {r : Pv.T × List (List V)} (hf : T f = some fn) (h : ∃ n0, ∀ n, n0 ≤ n → evFn (evN T n) n fn io args ext = some r) : EvF T f io args ext r := by
  obtain ⟨x, h⟩ := h
  refine ⟨x + 1, fun n hn => ?_⟩
  cases n with
  | zero => omega
  | succ n => simp only [evN, hf]; exact h n (by omega)
end
end Pv
