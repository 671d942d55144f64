
import Derived.Test.YtkgdfkhhaankkaaPvAA
set_option linter.all false
set_option linter.unusedVariables false
namespace Pv
open Go
structure Tg {α : Type} (a : α) : Type
def andThen {α : Type} (o : Option α) (k : α → Prop) (t : Tg k := ⟨⟩) : Prop := match o with
  | some a => k a
  | none => False
theorem andThen_some {α : Type} (a : α) (k : α → Prop) : andThen (some a) k = k a := rfl
theorem andThen_none {α : Type} (k : α → Prop) : andThen none k = False := rfl
theorem andThen_ex {α : Type} {o : Option α} {k : α → Prop} (h : andThen o k) : ∃ a, o = some a ∧ k a := by
  cases o with
  | none => exact h.elim
  | some a => exact ⟨a, rfl, h⟩
def bo {α β : Type} (o : Option α) (k : α → Option β) (t : Tg k := ⟨⟩) : Option β := match o with
  | some a => k a
  | none => none
theorem bo_some {α β : Type} (a : α) (k : α → Option β) : bo (some a) k = k a := rfl
theorem bo_none {α β : Type} (k : α → Option β) : bo none k = none := rfl
def req {β : Type} (c : Prop) [Decidable c] (k : Option β) (t : Tg k := ⟨⟩) : Option β := if c then k else none
theorem req_true {β : Type} (k : Option β) : req True k = k := rfl
theorem req_pos {β : Type} {c : Prop} [Decidable c] (h : c) (k : Option β) : req c k = k := by simp [req, h]
def condW (b : Bool) (A B : Unit → Prop) (t : Tg A := ⟨⟩) (u : Tg B := ⟨⟩) : Prop := if b = true then A () else B ()
theorem condW_true (A B : Unit → Prop) : condW true A B = A () := by simp [condW]
theorem condW_false (A B : Unit → Prop) : condW false A B = B () := by simp [condW]
theorem condW_intro {b : Bool} {A B : Unit → Prop} (h1 : b = true → A ()) (h2 : b = false → B ()) : condW b A B := by
  cases b with
  | true => exact h1 rfl
  | false => exact h2 rfl
def K.isCall : K → Bool
  | .call _ _ _ => true
  | _ => false
def noC : Orc := fun _ _ _ _ => none
theorem evIns_noC {C : Orc} {cx : Cx} {s : St} {k : K} {xs : List O} (h : k.isCall = false) : evIns C cx s k xs = evIns noC cx s k xs := by
  cases k <;> first | (simp [K.isCall] at h; done) | (rcases xs with _ | ⟨x, _ | ⟨y, _ | ⟨z, _ | ⟨z2, xs⟩⟩⟩⟩ <;> first | rfl | (cases x <;> rfl) | (cases ‹Option Nat› <;> rfl))
theorem evOp_noC {C : Orc} {cx : Cx} {s : St} {i : Ins} (h : i.k.isCall = false) : evOp C cx s i = evOp noC cx s i := by
  simp only [evOp, evDo, evIns_noC h (C := C)]
structure CIn where
  g : Nat
  args : List T
  ext : List (List V)
  hs : List (List V × Bool × Option Pl)
  ios : List (Nat × List V)
  boxes : List Nat
  m : Nat
def callIn (cx : Cx) (s : St) (io : List Nat) (b : Nat) (f : O) (as : List O) : Option CIn :=
  bo (s.opv f) fun ft => match ft with
  | .one (.clo g [] caps) =>
    bo (handAll s io 0 as) fun hs => bo (takeIo s as io) fun ios =>
      bo (viewAll (hs.map fun h => nOwn h.1).sum 0 hs) fun args =>
        bo (rowsOf s (reach s 100 ((args ++ caps.map T.one).flatMap ptrsT) [])) fun rows =>
        if (((lentRoots hs).any (fun r => (reach s 100 ((args ++ caps.map T.one).flatMap ptrsT) []).contains r || (ios.map fun x => x.1).contains r) || (ios.map fun x => x.1).any (reach s 100 ((args ++ caps.map T.one).flatMap ptrsT) []).contains || !decide (ios.map fun x => x.1).Nodup || !decide (reach s 100 ((args ++ caps.map T.one).flatMap ptrsT) []).Nodup || decide (1000 < (reach s 100 ((args ++ caps.map T.one).flatMap ptrsT) []).length) || (reach s 100 ((args ++ caps.map T.one).flatMap ptrsT) []).any cx.held || (ios.map fun x => x.1).any cx.held || cx.held b || !ios.all (fun x => x.2.all V.noPtr) || !decide io.Nodup)
          || !(((args ++ caps.map T.one).flatMap ptrsT ++ rows.flatMap ptrRow).all (reach s 100 ((args ++ caps.map T.one).flatMap ptrsT) []).contains)) = true then none else
          some ⟨g, (args ++ caps.map T.one).map (T.ren (intoBox (reach s 100 ((args ++ caps.map T.one).flatMap ptrsT) []))), (rows.map fun r => (mapLRow (Lab.up (hs.map fun h => nOwn h.1).sum) r).map (V.ren (intoBox (reach s 100 ((args ++ caps.map T.one).flatMap ptrsT) [])))) ++ (ios.map fun x => (mapLRow (Lab.up (hs.map fun h => nOwn h.1).sum) x.2).map (V.ren (intoBox (reach s 100 ((args ++ caps.map T.one).flatMap ptrsT) [])))), hs, ios, reach s 100 ((args ++ caps.map T.one).flatMap ptrsT) [], (hs.map fun h => nOwn h.1).sum⟩
  | _ => none
theorem evCall_of {C : Orc} {cx : Cx} {s : St} {io : List Nat} {b : Nat} {mv : Bool} {f : O} {as : List O} {c : CIn} (h : callIn cx s io b f as = some c) {t : T} {rows : List (List V)} (hc : C c.g io c.args c.ext = some (t, rows)) :
    evCall C cx s io b mv f as = evBack s b mv c.hs c.ios c.boxes c.m t rows := by
  unfold callIn at h
  unfold evCall
  cases h1 : s.opv f with
  | none => simp [h1, bo] at h
  | some ft =>
    simp only [h1, bo_some] at h
    split at h
    case h_2 => simp at h
    rename_i g caps
    cases h2 : handAll s io 0 as with
    | none => simp [h2, bo] at h
    | some hs =>
    cases h3 : takeIo s as io with
    | none => simp [h2, h3, bo] at h
    | some ios =>
    simp only [h2, h3, bo_some] at h
    cases h4 : viewAll (hs.map fun h => nOwn h.1).sum 0 hs with
    | none => simp [h4, bo] at h
    | some args =>
    simp only [h4, bo_some] at h
    cases h5 : rowsOf s (reach s 100 ((args ++ caps.map T.one).flatMap ptrsT) []) with
    | none => simp only [h5, bo_none] at h; cases h
    | some rs =>
    simp only [h5, bo_some] at h
    split at h
    · simp at h
    · rename_i hn
      simp only [Option.some.injEq] at h
      subst h
      simp only [Bool.or_eq_true, not_or, Bool.not_eq_true] at hn
      obtain ⟨hn1, hn2⟩ := hn
      simp only [h4, h5]
      rw [if_neg (by simp only [Bool.or_eq_true, not_or, Bool.not_eq_true]; exact hn1), if_neg (by simp only [hn2]; simp)]
      simp only [hc]
def CallF (T : Nat → Option Fn) (g : Nat) (io : List Nat) (args : List Pv.T) (ext : List (List V)) (k : Pv.T × List (List V) → Prop) (t : Tg k := ⟨⟩) : Prop := ∃ r, EvF T g io args ext r ∧ k r
theorem CallF.intro {T : Nat → Option Fn} {g : Nat} {io : List Nat} {args : List Pv.T} {ext : List (List V)} {k : Pv.T × List (List V) → Prop} {r : Pv.T × List (List V)} (h : EvF T g io args ext r) (hk : k r) : CallF T g io args ext k := ⟨r, h, hk⟩
def CallK (T : Nat → Option Fn) (cx : Cx) (s : St) (io : List Nat) (b : Nat) (mv : Bool) (f : O) (as : List O) (k : Pv.T × St × List (Nat × Nat) → Prop) (t : Tg k := ⟨⟩) : Prop :=
  andThen (callIn cx s io b f as) fun c => CallF T c.g io c.args c.ext fun r => andThen (evBack s b mv c.hs c.ios c.boxes c.m r.1 r.2) k
def W1 (T : Nat → Option Fn) (cx : Cx) (s : St) (k : K) (xs : List O) (q : Pv.T × St × List (Nat × Nat) → Prop) (t : Tg q := ⟨⟩) : Prop := match k, xs with
  | .call io b mv, f :: as => CallK T cx s io b mv f as q
  | .call _ _ _, [] => False
  | k, xs => andThen (evIns noC cx s k xs) q
def St.grd (s : St) (g : Nat) (w : Bool) : Option Bool := match s.get g with
  | some (.one (.sc (.bool b)), _) => some (b == w)
  | some (.tup [], _) => some false
  | _ => none
def WI (T : Nat → Option Fn) (cx : Cx) (s : St) (i : Ins) (q : St × List (Nat × Nat) → Prop) (t : Tg q := ⟨⟩) : Prop :=
  cx.pinned i.dst = false ∧ match i.grd with
  | none => W1 T cx s i.k i.xs fun x => q (putDst x.2.1 i.dst x.1, x.2.2 ++ dstRoots x.2.1 i.dst x.1)
  | some (g, w) => andThen (s.grd g w) fun b => condW b (fun _ => W1 T cx s i.k i.xs fun x => q (putDst x.2.1 i.dst x.1, x.2.2 ++ dstRoots x.2.1 i.dst x.1)) (fun _ => q (putDst s i.dst (.tup []), dstRoots s i.dst (.tup [])))
theorem W1.ev {T : Nat → Option Fn} {cx : Cx} {s : St} {k : K} {xs : List O} {q : Pv.T × St × List (Nat × Nat) → Prop} (h : W1 T cx s k xs q) : ∃ x, (∃ n0, ∀ m, n0 ≤ m → evIns (evN T m) cx s k xs = some x) ∧ q x := by
  by_cases hk : k.isCall = true
  · cases k <;> simp [K.isCall] at hk
    cases xs with
    | nil => exact h.elim
    | cons f as =>
      rename_i io b mv
      simp only [W1, CallK] at h
      obtain ⟨c, h1, h2⟩ := andThen_ex h
      obtain ⟨⟨t, rows⟩, ⟨n0, h3⟩, h4⟩ := h2
      obtain ⟨x, h5, h6⟩ := andThen_ex h4
      exact ⟨x, ⟨n0, fun m hm => by simp only [evIns]; rw [evCall_of h1 (h3 m hm)]; exact h5⟩, h6⟩
  · simp only [Bool.not_eq_true] at hk
    have : W1 T cx s k xs q = andThen (evIns noC cx s k xs) q := by
      cases k <;> first | rfl | (simp [K.isCall] at hk)
    rw [this] at h
    obtain ⟨x, h1, h2⟩ := andThen_ex h
    exact ⟨x, ⟨0, fun m _ => by rw [evIns_noC hk, h1]⟩, h2⟩
theorem WI.ev {T : Nat → Option Fn} {cx : Cx} {s : St} {i : Ins} {q : St × List (Nat × Nat) → Prop} (h : WI T cx s i q) : ∃ x, (∃ n0, ∀ m, n0 ≤ m → ∃ f, evOp (evN T m) cx s i = some (x.1, f) ∧ f.wr = x.2) ∧ q x := by
  obtain ⟨hp, h⟩ := h
  obtain ⟨k, xs, d, g⟩ := i
  cases g with
  | none =>
    obtain ⟨x, ⟨n0, h1⟩, h2⟩ := W1.ev h
    refine ⟨_, ⟨n0, fun m hm => ?_⟩, h2⟩
    simp only [evOp, hp, evDo, h1 m hm]
    exact ⟨_, rfl, rfl⟩
  | some gw =>
    obtain ⟨g, w⟩ := gw
    simp only at h
    obtain ⟨b, h1, h2⟩ := andThen_ex h
    cases b with
    | true =>
      rw [condW_true] at h2
      obtain ⟨x, ⟨n0, h3⟩, h4⟩ := W1.ev h2
      refine ⟨_, ⟨n0, fun m hm => ?_⟩, h4⟩
      simp only [St.grd] at h1
      simp only [evOp, hp]
      split at h1
      · rename_i b v hb
        simp only [Option.some.injEq, beq_iff_eq] at h1
        simp only [hb, h1, evDo, h3 m hm]
        exact ⟨_, rfl, rfl⟩
      · simp at h1
      · simp at h1
    | false =>
      rw [condW_false] at h2
      refine ⟨_, ⟨0, fun m hm => ?_⟩, h2⟩
      simp only [St.grd] at h1
      simp only [evOp, hp]
      split at h1
      · rename_i b v hb
        simp only [Option.some.injEq, beq_eq_false_iff_ne, ne_eq] at h1
        simp only [hb, if_neg h1]
        exact ⟨_, rfl, rfl⟩
      · rename_i v hb
        simp only [hb]
        exact ⟨_, rfl, rfl⟩
      · simp at h1
def WOr (T : Nat → Option Fn) (cx : Cx) : List Ins → St → (St → Prop) → Prop
  | [], s, Q => Q s
  | i :: is, s, Q => WI T cx s i fun x => WOr T cx is x.1 Q
def WO (T : Nat → Option Fn) (cx : Cx) (ops : List Ins) (s : St) (Q : St → Prop) (t : Tg Q := ⟨⟩) : Prop := WOr T cx ops s Q
theorem WO.ev {T : Nat → Option Fn} {cx : Cx} : ∀ {ops : List Ins} {s : St} {Q : St → Prop}, WO T cx ops s Q → ∃ s2, EvO T cx ops s s2 ∧ Q s2
  | [], s, Q, h => ⟨s, .nil, h⟩
  | i :: is, s, Q, h => by
    have h : WI T cx s i (fun x => WO T cx is x.1 Q) := h
    obtain ⟨x, ⟨n0, h1⟩, h2⟩ := WI.ev h
    obtain ⟨s2, h3, h4⟩ := WO.ev h2
    exact ⟨s2, .cons ⟨n0, fun m hm => let ⟨f, hf, _⟩ := h1 m hm; ⟨f, hf⟩⟩ h3, h4⟩
def drwOk (h : Hint) (i : Ins) (s : St) (x : St × List (Nat × Nat)) : Bool := x.2.all (fun y => h.w.contains y.1) && h.soft.all (fun k => simO (s.get k) (x.1.get k)) && (h.ks.isEmpty || softLoad i x.1)
def WDr (T : Nat → Option Fn) (cx : Cx) : List Ins → List Hint → St → (St → Prop) → Prop
  | [], [], s, Q => Q s
  | i :: is, h :: hs, s, Q => WI T cx (s.restr (h.kd ++ h.ks)) i fun x => drwOk h i s x = true ∧ WDr T cx is hs (s.mix h.w x.1) Q
  | _, _, _, _ => False
def WD (T : Nat → Option Fn) (cx : Cx) (ops : List Ins) (hs : List Hint) (s : St) (Q : St → Prop) (t : Tg Q := ⟨⟩) : Prop := WDr T cx ops hs s Q
theorem WD.ev {T : Nat → Option Fn} {cx : Cx} : ∀ {ops : List Ins} {hs : List Hint} {s : St} {Q : St → Prop}, WD T cx ops hs s Q → ∃ s2, EvD T cx ops hs s s2 ∧ Q s2
  | [], [], s, Q, h => ⟨s, .nil, h⟩
  | i :: is, h :: hs, s, Q, hw => by
    have hw : WI T cx (s.restr (h.kd ++ h.ks)) i (fun x => drwOk h i s x = true ∧ WD T cx is hs (s.mix h.w x.1) Q) := hw
    obtain ⟨⟨o, M⟩, ⟨n0, h1⟩, h2, h3⟩ := WI.ev hw
    obtain ⟨s2, h4, h5⟩ := WD.ev h3
    simp only [drwOk, Bool.and_eq_true] at h2
    exact ⟨s2, .cons ⟨n0, fun m hm => let ⟨f, hf, hf2⟩ := h1 m hm; ⟨f, hf, by rw [hf2]; exact h2.1.1⟩⟩ h2.1.2 h2.2 h4, h5⟩
  | [], _ :: _, s, Q, h => h.elim
  | _ :: _, [], s, Q, h => h.elim
def LoopW (T : Nat → Option Fn) (cx : Cx) (l : List Nat) (b : Cd) (s : St) (Q : Ex → St → Prop) (t : Tg Q := ⟨⟩) : Prop := ∃ ex s2, EvC T cx (.loop l b) s (ex, s2) ∧ Q ex s2
def onNrm (ex : Ex) (A B : Unit → Prop) (t : Tg A := ⟨⟩) (u : Tg B := ⟨⟩) : Prop := match ex with
  | .nrm => A ()
  | _ => B ()
theorem onNrm_nrm (A B : Unit → Prop) : onNrm .nrm A B = A () := rfl
theorem onNrm_exit (i : Nat) (A B : Unit → Prop) : onNrm (.exit i) A B = B () := rfl
theorem onNrm_ret (A B : Unit → Prop) : onNrm .ret A B = B () := rfl
def outOf (id : Nat) : Ex → Ex
  | .exit j => if j = id then .nrm else .exit j
  | e => e
def boolV : Value → Option Bool
  | .bool b => some b
  | _ => none
def WCr (T : Nat → Option Fn) (cx : Cx) : Cd → St → (Ex → St → Prop) → Prop
  | .skip, s, Q => Q .nrm s
  | .ret, s, Q => Q .ret s
  | .exit id, s, Q => Q (.exit id) s
  | .reg ops live, s, Q => WO T cx ops s fun s' => Q .nrm (s'.keep live)
  | .drw ops hs live, s, Q => WD T cx ops hs (s.clear ops) fun s' => Q .nrm (s'.keep live)
  | .seq a b, s, Q => WCr T cx a s fun ex s' => onNrm ex (fun _ => WCr T cx b s' Q) (fun _ => Q ex s')
  | .cond c a b, s, Q => andThen (bo (s.sc c) boolV) fun v => condW v (fun _ => WCr T cx a s Q) (fun _ => WCr T cx b s Q)
  | .block id b, s, Q => WCr T cx b s fun ex s' => Q (outOf id ex) s'
  | .loop l b, s, Q => LoopW T cx l b s Q
  | .clone x d sz bytes, s, Q => False
  | .bad _, _, _ => False
def WC (T : Nat → Option Fn) (cx : Cx) (c : Cd) (s : St) (Q : Ex → St → Prop) (t : Tg Q := ⟨⟩) : Prop := WCr T cx c s Q
theorem WC.ev {T : Nat → Option Fn} {cx : Cx} : ∀ {c : Cd} {s : St} {Q : Ex → St → Prop}, WC T cx c s Q → ∃ ex s2, EvC T cx c s (ex, s2) ∧ Q ex s2
  | .skip, s, Q, h => ⟨_, _, .skip, h⟩
  | .ret, s, Q, h => ⟨_, _, .ret, h⟩
  | .exit id, s, Q, h => ⟨_, _, .exit, h⟩
  | .reg ops live, s, Q, h => by
    obtain ⟨s2, h1, h2⟩ := WO.ev h
    exact ⟨_, _, .reg h1, h2⟩
  | .drw ops hs live, s, Q, h => by
    obtain ⟨s2, h1, h2⟩ := WD.ev h
    exact ⟨_, _, .drw h1, h2⟩
  | .seq a b, s, Q, h => by
    obtain ⟨ex, s1, h1, h2⟩ := WC.ev (c := a) h
    cases ex with
    | nrm =>
      obtain ⟨ex2, s2, h3, h4⟩ := WC.ev (c := b) h2
      exact ⟨_, _, .seq h1 h3, h4⟩
    | exit id => exact ⟨_, _, .seq_exit h1 (by simp), h2⟩
    | ret => exact ⟨_, _, .seq_exit h1 (by simp), h2⟩
  | .cond c a b, s, Q, h => by
    have h : andThen (bo (s.sc c) boolV) (fun v => condW v (fun _ => WC T cx a s Q) (fun _ => WC T cx b s Q)) := h
    obtain ⟨v, h1, h2⟩ := andThen_ex h
    cases hs : s.sc c with
    | none => simp [hs, bo] at h1
    | some w =>
      simp only [hs, bo_some] at h1
      cases w <;> simp only [boolV, reduceCtorEq, Option.some.injEq] at h1
      subst h1
      rename_i w
      cases w with
      | true =>
        rw [condW_true] at h2
        obtain ⟨ex2, s2, h3, h4⟩ := WC.ev (c := a) h2
        exact ⟨_, _, .cond hs h3, h4⟩
      | false =>
        rw [condW_false] at h2
        obtain ⟨ex2, s2, h3, h4⟩ := WC.ev (c := b) h2
        exact ⟨_, _, .cond hs h3, h4⟩
  | .block id b, s, Q, h => by
    obtain ⟨ex, s1, h1, h2⟩ := WC.ev (c := b) h
    refine ⟨_, _, .block h1, ?_⟩
    cases ex <;> exact h2
  | .loop l b, s, Q, h => h
  | .clone x d sz bytes, s, Q, h => h.elim
  | .bad _, _, _, h => h.elim
theorem LoopW.intro {T : Nat → Option Fn} {cx : Cx} {l : List Nat} {b : Cd} {Q : Ex → St → Prop} (I : Nat → St → Prop)
    (hI : ∀ n s, I n s → WC T cx b s fun ex s' => onNrm ex (fun _ => ∃ m, m < n ∧ I m (norm (s'.keep l))) (fun _ => Q ex s')) {s : St} (n : Nat) (h0 : I n (norm (s.keep l))) : LoopW T cx l b s Q := by
  induction n using Nat.strongRecOn generalizing s with
  | _ n ih =>
    obtain ⟨ex, s1, h1, h2⟩ := WC.ev (hI n _ h0)
    cases ex with
    | nrm =>
      obtain ⟨m, hm, h3⟩ := h2
      obtain ⟨ex2, s2, h4, h5⟩ := ih m hm h3
      exact ⟨_, _, .loop_in h1 h4, h5⟩
    | exit id => exact ⟨_, _, .loop_out h1 (by simp), h2⟩
    | ret => exact ⟨_, _, .loop_out h1 (by simp), h2⟩
def finOne (nb : Nat) (fn : Fn) (s' : St) (e : List (List V)) (ts : List T) : Option (T × List (List V)) := match ts with
  | [.one (.ptr r o)] =>
    if r < 10000 then (match (if fn.io.any (fun x => x.2.1 == r) then none else s'.boxRow r) with
      | some row => if okPtr row then some (.one (.ptr 20000 o), e ++ [row]) else none
      | none => none)
    else if isExt r then some (.one (.ptr r o), e) else none
  | [t] => if (ptrsT t).all isExt then some (t, e) else none
  | ts => if 100 < ts.length then none else if (ts.flatMap ptrsT).all isExt then some (.tup ts, e) else none
def fin (fn : Fn) (cx : Cx) (ext : List (List V)) (s : St) : Option (T × List (List V)) :=
  bo (readAll s cx fn.results) fun x => bo (extRows x.2 0 (ext.take (ext.length - fn.io.length))) fun e1 => bo (ioOut x.2 fn.io (ext.drop (ext.length - fn.io.length))) fun e2 =>
    req ((e1 ++ e2).all okPtr = true) (finOne (ext.length - fn.io.length) fn x.2 (e1 ++ e2) x.1)
def start (fn : Fn) (io : List Nat) (args : List T) (ext : List (List V)) : Option St :=
  req (args.length = fn.nparams ∧ io = fn.io.map (fun x => x.1) ∧ (fn.io.all fun x => match args[x.1]? with | some (.agg _) => x.2.2 | some (.one _) => !x.2.2 | _ => false) = true)
    (startIo (startArgs 0 args ++ startExt 0 (ext.take (ext.length - fn.io.length))) fn.io (ext.drop (ext.length - fn.io.length)))
def notExit : Ex → Bool
  | .exit _ => false
  | _ => true
theorem EvF.run {T : Nat → Option Fn} {f : Nat} {fn : Fn} {io : List Nat} {args : List Pv.T} {ext : List (List V)} {r : Pv.T × List (List V)} (hf : T f = some fn)
    (h : andThen (start fn io args ext) fun s0 => WC T ⟨fn.named, fn.io.map fun x => (x.1, x.2.1)⟩ fn.code s0 fun ex s => notExit ex = true ∧ fin fn ⟨fn.named, fn.io.map fun x => (x.1, x.2.1)⟩ ext s = some r) : EvF T f io args ext r := by
  obtain ⟨s0, h1, h2⟩ := andThen_ex h
  obtain ⟨ex, s2, ⟨n0, h3⟩, h4, h5⟩ := WC.ev h2
  refine EvF.of hf ⟨n0, fun n hn => ?_⟩
  unfold start req at h1
  split at h1
  case isFalse => simp at h1
  rename_i hc
  unfold evFn
  simp only
  rw [if_neg (by
    intro hh
    rcases hh with hh | hh | hh
    · exact hh hc.1
    · exact hh hc.2.1
    · exact Bool.noConfusion (hh.symm.trans hc.2.2))]
  rw [h1]
  simp only [h3 n n hn hn]
  unfold fin at h5
  cases hr : readAll s2 ⟨fn.named, fn.io.map fun x => (x.1, x.2.1)⟩ fn.results with
  | none => simp [hr, bo] at h5
  | some x =>
  simp only [hr, bo_some] at h5
  cases he : extRows x.2 0 (ext.take (ext.length - fn.io.length)) with
  | none => simp [he, bo] at h5
  | some e1 =>
  simp only [he, bo_some] at h5
  cases hi : ioOut x.2 fn.io (ext.drop (ext.length - fn.io.length)) with
  | none => simp [hi, bo] at h5
  | some e2 =>
  simp only [hi, bo_some] at h5
  unfold req at h5
  split at h5
  case isFalse => simp at h5
  rename_i hok
  obtain ⟨ts, s3⟩ := x
  cases ex with
  | exit id => simp [notExit] at h4
  | nrm => simp only [hr, he, hi, hok]; exact h5
  | ret => simp only [hr, he, hi, hok]; exact h5
end Pv
