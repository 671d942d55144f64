
import Derived.Test.YtkgdfkhhaankkaaPvAC
set_option linter.all false
set_option linter.unusedVariables false
namespace Pv
open Go
def normG (s : St) (r : St) : St := r.map fun x => (x.1, normT s x.2.1, 0)
def verIs (s : St) (p : Pl) : Bool := (s.get p.r).any fun x => x.2 == p.ver
def restrG (s : St) (K : List Nat) : St := K.filterMap fun k => (s.get k).map fun x => (k, x)
def rgO (o : Option Slot) (k : Nat) (r : St) : St := match o with
  | some x => (k, x) :: r
  | none => r
def St.onlyIn (W : List Nat) (o : St) : St := o.filter fun x => W.contains x.1
def St.notIn (W : List Nat) (o : St) : St := o.filter fun x => !W.contains x.1
def softT : T → Option Bool
  | .al p => some p.path.isEmpty
  | _ => some false
theorem b_add {k : IntKind} {a b : Int} : binV .add (.int k a) (.int k b) = some (.int k (k.wrap (a + b))) := by simp [binV]
theorem b_sub {k : IntKind} {a b : Int} : binV .sub (.int k a) (.int k b) = some (.int k (k.wrap (a - b))) := by simp [binV]
theorem b_mul {k : IntKind} {a b : Int} : binV .mul (.int k a) (.int k b) = some (.int k (k.wrap (a * b))) := by simp [binV]
theorem b_quo {k : IntKind} {a b : Int} : binV .quo (.int k a) (.int k b) = req (b ≠ 0) (some (.int k (k.wrap (a.tdiv b)))) := by simp [binV, req]
theorem b_rem {k : IntKind} {a b : Int} : binV .rem (.int k a) (.int k b) = req (b ≠ 0) (some (.int k (a.tmod b))) := by simp [binV, req]
theorem b_eql {k : IntKind} {a b : Int} : binV .eql (.int k a) (.int k b) = some (.bool (decide (a = b))) := by by_cases h : a = b <;> simp [binV, h]
theorem b_neq {k : IntKind} {a b : Int} : binV .neq (.int k a) (.int k b) = some (.bool (decide (a ≠ b))) := by
  simp [binV, bne]; by_cases h : a = b <;> simp [h]
theorem b_lss {k : IntKind} {a b : Int} : binV .lss (.int k a) (.int k b) = some (.bool (decide (a < b))) := by simp [binV]
theorem b_leq {k : IntKind} {a b : Int} : binV .leq (.int k a) (.int k b) = some (.bool (decide (a ≤ b))) := by simp [binV]
theorem b_gtr {k : IntKind} {a b : Int} : binV .gtr (.int k a) (.int k b) = some (.bool (decide (a > b))) := by simp [binV]
theorem b_geq {k : IntKind} {a b : Int} : binV .geq (.int k a) (.int k b) = some (.bool (decide (a ≥ b))) := by simp [binV]
theorem u_not {b : Bool} : unV .not (.bool b) = some (.bool (!b)) := rfl
theorem u_neg {k : IntKind} {n : Int} : unV .neg (.int k n) = some (.int k (k.wrap (0 - n))) := rfl
theorem e_int {k : IntKind} {a b : Int} : eqV (.sc (.int k a)) (.sc (.int k b)) = some (decide (a = b)) := by by_cases h : a = b <;> simp [eqV, h]
theorem e_bool {a b : Bool} : eqV (.sc (.bool a)) (.sc (.bool b)) = some (decide (a = b)) := by by_cases h : a = b <;> simp [eqV, h]
theorem e_k0 : eqRowK [] [] [] = some true := rfl
theorem e_kC {k : Bool} {ks : List Bool} {a b : V} {r q : List V} : eqRowK (k :: ks) (a :: r) (b :: q) = req (k = a.isBool) (bo (eqV a b) fun x => bo (eqRowK ks r q) fun y => some (x && y)) := by
  simp only [eqRowK, req, bo]
  split
  · cases eqV a b <;> cases eqRowK ks r q <;> rfl
  · rfl
theorem e_ib {b : Bool} : V.isBool (.sc (.bool b)) = true := rfl
theorem e_ii {k : IntKind} {n : Int} : V.isBool (.sc (.int k n)) = false := rfl
section
variable {s : St} {cx : Cx} {l : List Nat}
theorem k_keep0 : St.keep [] l = [] := rfl
theorem k_keepC {j v : Nat} {t : T} : St.keep ((j, t, v) :: s) l = if kept l j = true then (j, keepT l t, v) :: St.keep s l else St.keep s l := rfl
theorem k_kept {j : Nat} : kept l j = if 600000 ≤ j then decide (610000 ≤ j) || l.contains j else if 30000 ≤ j then l.contains ((j - 30000) / 100) else decide (10000 ≤ j) || l.contains j := rfl
theorem k_con0 {j : Nat} : List.contains ([] : List Nat) j = false := rfl
theorem k_conC {i j : Nat} : List.contains (i :: l) j = (j == i || l.contains j) := List.contains_cons
theorem k_one {v : V} : keepT l (.one v) = if (ptrsV v).all (kept l) = true then .one v else .one .dead := rfl
theorem k_agg {r : List V} : keepT l (.agg r) = if (r.flatMap ptrsV).all (kept l) = true then .agg r else .agg (deads r) := rfl
theorem k_al {p : Pl} : keepT l (.al p) = if kept l p.r = true then .al p else .one .dead := rfl
theorem k_ala {p : Pl} {n : List V} : keepT l (.ala p n) = if (kept l p.r && (n.flatMap ptrsV).all (kept l)) = true then .ala p n else .one .dead := rfl
theorem k_slb {p : Pl} {a b : Nat} {c : Bool} : keepT l (.slb p a b c) = if kept l p.r = true then .slb p a b c else .one .dead := rfl
theorem k_ad {p : Pl} : keepT l (.ad p) = if kept l p.r = true then .ad p else .one .dead := rfl
theorem k_rad {r : List V} {o : Nat} : keepT l (.rad r o) = .rad r o := rfl
theorem k_tup {ts : List T} : keepT l (.tup ts) = .tup ts := rfl
theorem k_mp {r : Nat} {a b : Bool} {ks vs : List (List V)} : keepT l (.mp r a b ks vs) = if kept l r = true then .mp r a b ks vs else .one .dead := rfl
theorem k_pSc {v : Value} : ptrsV (.sc v) = [] := rfl
theorem k_pSl {lb : Lab} {sz : Nat} {rows : List (List V)} : ptrsV (.sl lb sz rows) = [] := rfl
theorem k_pPtr {r o : Nat} : ptrsV (.ptr r o) = [r] := rfl
theorem k_pMr {r : Nat} : ptrsV (.mref r) = [r] := rfl
theorem k_pClo {f : Nat} {a b : List V} : ptrsV (.clo f a b) = (a ++ b).flatMap ptrs1 := rfl
theorem k_pDead : ptrsV .dead = [] := rfl
theorem k_q1 {v : Value} : ptrs1 (.sc v) = [] := rfl
theorem k_q2 {r o : Nat} : ptrs1 (.ptr r o) = [r] := rfl
theorem k_fm0 {α β : Type} {f : α → List β} : List.flatMap f [] = [] := rfl
theorem k_fmC {α β : Type} {f : α → List β} {a : α} {as : List α} : List.flatMap f (a :: as) = f a ++ List.flatMap f as := List.flatMap_cons
theorem k_all0 {α : Type} {f : α → Bool} : List.all [] f = true := rfl
theorem k_allC {α : Type} {f : α → Bool} {a : α} {as : List α} : List.all (a :: as) f = (f a && List.all as f) := rfl
theorem k_any0 {α : Type} {f : α → Bool} : List.any [] f = false := rfl
theorem k_anyC {α : Type} {f : α → Bool} {a : α} {as : List α} : List.any (a :: as) f = (f a || List.any as f) := rfl
theorem k_app0 {α : Type} {as : List α} : [] ++ as = as := rfl
theorem k_appC {α : Type} {a : α} {as bs : List α} : (a :: as) ++ bs = a :: (as ++ bs) := rfl
theorem k_emp0 {α : Type} : List.isEmpty ([] : List α) = true := rfl
theorem k_empC {α : Type} {a : α} {as : List α} : List.isEmpty (a :: as) = false := rfl
theorem k_len0 {α : Type} : List.length ([] : List α) = 0 := rfl
theorem k_lenC {α : Type} {a : α} {as : List α} : List.length (a :: as) = as.length + 1 := rfl
theorem k_at0 {α : Type} {a : α} {as : List α} : (a :: as)[0]? = some a := rfl
theorem k_atS {α : Type} {a : α} {as : List α} {i : Nat} : (a :: as)[i + 1]? = as[i]? := rfl
theorem k_tk0 {α : Type} {as : List α} : as.take 0 = [] := by simp
theorem k_tkS {α : Type} {a : α} {as : List α} {i : Nat} : (a :: as).take (i + 1) = a :: as.take i := rfl
theorem k_tkN {α : Type} {i : Nat} : ([] : List α).take i = [] := by simp
theorem k_dp0 {α : Type} {as : List α} : as.drop 0 = as := rfl
theorem k_dpS {α : Type} {a : α} {as : List α} {i : Nat} : (a :: as).drop (i + 1) = as.drop i := rfl
theorem k_dpN {α : Type} {i : Nat} : ([] : List α).drop i = [] := by simp
theorem k_st0 {α : Type} {a b : α} {as : List α} : (a :: as).set 0 b = b :: as := rfl
theorem k_stS {α : Type} {a b : α} {as : List α} {i : Nat} : (a :: as).set (i + 1) b = a :: as.set i b := rfl
theorem k_sum0 : List.sum ([] : List Nat) = 0 := rfl
theorem k_sumC {a : Nat} {as : List Nat} : List.sum (a :: as) = a + as.sum := by simp
theorem k_rep0 {α : Type} {a : α} : List.replicate 0 a = [] := rfl
theorem k_rep1 {α : Type} {a : α} : List.replicate 1 a = [a] := rfl
theorem k_appNil {α : Type} {as : List α} : as ++ [] = as := by simp
theorem k_norm0 : norm [] = [] := rfl
theorem k_norm {s : St} : norm s = normG s s := rfl
theorem k_ng0 : normG s [] = [] := rfl
theorem k_ngC {j v : Nat} {t : T} {r : St} : normG s ((j, t, v) :: r) = (j, normT s t, 0) :: normG s r := rfl
theorem k_n1 {v : V} : normT s (.one v) = .one v := rfl
theorem k_n2 {r : List V} : normT s (.agg r) = .agg r := rfl
theorem k_n3 {p : Pl} : normT s (.al p) = if verIs s p = true then .al ⟨p.r, p.off, p.path, 0⟩ else .one .dead := by
  unfold normT verIs; rfl
theorem k_n4 {p : Pl} {n : List V} : normT s (.ala p n) = if verIs s p = true then .ala ⟨p.r, p.off, p.path, 0⟩ n else .one .dead := rfl
theorem k_n5 {p : Pl} {a b : Nat} {c : Bool} : normT s (.slb p a b c) = if verIs s p = true then .slb ⟨p.r, p.off, p.path, 0⟩ a b c else .one .dead := rfl
theorem k_n6 {p : Pl} : normT s (.ad p) = if verIs s p = true then .ad ⟨p.r, p.off, p.path, 0⟩ else .one .dead := rfl
theorem k_n7 {ts : List T} : normT s (.tup ts) = .one .dead := rfl
theorem k_n8 {r : List V} {o : Nat} : normT s (.rad r o) = .rad r o := rfl
theorem k_verIs {p : Pl} : verIs s p = (bo (s.get p.r) fun x => some (x.2 == p.ver)).getD false := by
  unfold verIs bo; cases s.get p.r <;> rfl
theorem k_gs {a b : Bool} : (some a).getD b = a := rfl
theorem k_gn {b : Bool} : (none : Option Bool).getD b = b := rfl
theorem d_restr {K : List Nat} : s.restr K = restrG s K := rfl
theorem d_rg0 : restrG s [] = [] := rfl
theorem d_rgC {k : Nat} {K : List Nat} : restrG s (k :: K) = rgO (s.get k) k (restrG s K) := by
  unfold restrG; rw [List.filterMap_cons]; cases s.get k <;> rfl
theorem d_rgS {k : Nat} {x : Slot} {r : St} : rgO (some x) k r = (k, x) :: r := rfl
theorem d_rgN {k : Nat} {r : St} : rgO none k r = r := rfl
theorem d_mix {W : List Nat} {o : St} : s.mix W o = St.lay (St.onlyIn W o) (St.notIn W s) := rfl
theorem d_lay0 : St.lay [] s = s := rfl
theorem d_layC {j : Nat} {x : Slot} {o : St} : St.lay ((j, x) :: o) s = (St.lay o s).set j x := rfl
theorem d_oi0 {W : List Nat} : St.onlyIn W [] = [] := rfl
theorem d_oiC {W : List Nat} {j : Nat} {x : Slot} : St.onlyIn W ((j, x) :: s) = if W.contains j = true then (j, x) :: St.onlyIn W s else St.onlyIn W s := by
  unfold St.onlyIn; rw [List.filter_cons]
theorem d_ni0 {W : List Nat} : St.notIn W [] = [] := rfl
theorem d_niC {W : List Nat} {j : Nat} {x : Slot} : St.notIn W ((j, x) :: s) = if W.contains j = true then St.notIn W s else (j, x) :: St.notIn W s := by
  unfold St.notIn; rw [List.filter_cons]; cases W.contains j <;> rfl
theorem d_clear0 {is : List Ins} : St.clear [] is = [] := rfl
theorem d_clearL {is : List Ins} {j : Nat} {x : Slot} (h : j < 30000) : St.clear ((j, x) :: s) is = (j, x) :: St.clear s is := by
  unfold St.clear; rw [List.filter_cons, if_pos (by simp; omega)]
theorem d_ok {h : Hint} {i : Ins} {x : St × List (Nat × Nat)} : drwOk h i s x = (x.2.all (fun y => h.w.contains y.1) && h.soft.all (fun k => simO (s.get k) (x.1.get k)) && (h.ks.isEmpty || softLoad i x.1)) := rfl
theorem d_sim {r q : List V} {v u : Nat} : simO (some (.agg r, v)) (some (.agg q, u)) = (v == u && decide (r.map V.hdOf = q.map V.hdOf)) := by
  by_cases h : r.map V.hdOf = q.map V.hdOf <;> simp [simO, h]
theorem d_hd1 {v : Value} : V.hdOf (.sc v) = 0 := rfl
theorem d_hd2 {lb : Lab} {sz : Nat} {rows : List (List V)} : V.hdOf (.sl lb sz rows) = if lb = .own then 2 else 0 := by cases lb <;> rfl
theorem d_hd3 {r o : Nat} : V.hdOf (.ptr r o) = 0 := rfl
theorem d_soft {xs : List O} {d : Nat} {o : St} : softLoad ⟨.load none, xs, some d, none⟩ o = (bo (o.get d) fun x => softT x.1).getD false := by
  unfold softLoad bo
  simp only [Option.isNone_none, Bool.and_self, Bool.true_and]
  cases o.get d with
  | none => rfl
  | some x => obtain ⟨t, v⟩ := x; cases t <;> rfl
theorem d_softT {p : Pl} : softT (.al p) = some p.path.isEmpty := rfl
theorem d_dr {d : Nat} {v : V} : dstRoots s (some d) (.one v) = (d, 0) :: partsOf s d := by simp [dstRoots]
theorem d_dr2 {d : Nat} {v : List V} : dstRoots s (some d) (.agg v) = (d, 0) :: partsOf s d := by simp [dstRoots]
theorem d_dr3 {d : Nat} {p : Pl} : dstRoots s (some d) (.al p) = (d, 0) :: partsOf s d := by simp [dstRoots]
theorem d_dr4 {d : Nat} {p : Pl} {n : List V} : dstRoots s (some d) (.ala p n) = (d, 0) :: partsOf s d := by simp [dstRoots]
theorem d_dr5 {d : Nat} {p : Pl} {a b : Nat} {c : Bool} : dstRoots s (some d) (.slb p a b c) = (d, 0) :: partsOf s d := by simp [dstRoots]
theorem d_dr6 {d : Nat} {p : Pl} : dstRoots s (some d) (.ad p) = (d, 0) :: partsOf s d := by simp [dstRoots]
theorem d_dr7 {d : Nat} {r : List V} {o : Nat} : dstRoots s (some d) (.rad r o) = (d, 0) :: partsOf s d := by simp [dstRoots]
theorem d_dr8 {d : Nat} {ts : List T} : dstRoots s (some d) (.tup ts) = (d, 0) :: (partsOf s d ++ (List.range ts.length).map fun i => (tupAt d i, 0)) := rfl
theorem d_dr9 {t : T} : dstRoots s none t = [] := rfl
theorem d_po0 {d : Nat} : partsOf [] d = [] := rfl
theorem d_poL {d j : Nat} {x : Slot} (h : j < 30000) : partsOf ((j, x) :: s) d = partsOf s d := by
  unfold partsOf; rw [List.filter_cons, if_neg (by simp; omega)]
theorem d_poG {d j : Nat} {x : Slot} (h : 30000 ≤ j) : partsOf ((j, x) :: s) d = if (j - 30000) / 100 = d then (j, 0) :: partsOf s d else partsOf s d := by
  unfold partsOf; rw [List.filter_cons]; by_cases e : (j - 30000) / 100 = d <;> simp [h, e]
end
end Pv
