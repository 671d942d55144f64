import Derived.Attr
import Derived.Test.YtkgdfkhhaankkaaPvAE
set_option linter.all false
namespace Pv
open Go
section
variable {α β : Type}
theorem t_ne {a b : α} : (a ≠ b) = ¬ (a = b) := rfl
theorem t_refl {a : α} : (a = a) = True := by simp
theorem t_beq {a : Nat} : (a == a) = true := by simp
theorem t_lenMap {f : α → β} {l : List α} : (l.map f).length = l.length := by simp
theorem t_lenApp {l k : List α} : (l ++ k).length = l.length + k.length := by simp
theorem t_lenRep {n : Nat} {a : α} : (List.replicate n a).length = n := by simp
theorem t_lenSet {l : List α} {n : Nat} {a : α} : (l.set n a).length = l.length := by simp
theorem t_getMap {f : α → β} {l : List α} {i : Nat} : (l.map f)[i]? = l[i]?.map f := by simp
theorem t_mapSome {f : α → β} {a : α} : (some a).map f = some (f a) := rfl
theorem t_toNat {n : Nat} : (n : Int).toNat = n := by simp
theorem t_cast0 : ((0 : Nat) : Int) = 0 := rfl
theorem t_nodup0 : ([] : List Nat).Nodup = True := by simp
theorem t_nodupC {a : Nat} {l : List Nat} : (a :: l).Nodup = (¬ a ∈ l ∧ l.Nodup) := by simp
theorem t_mem0 {a : Nat} : (a ∈ ([] : List Nat)) = False := by simp
theorem t_memC {a b : Nat} {l : List Nat} : (a ∈ b :: l) = (a = b ∨ a ∈ l) := by simp
theorem t_itself {c : Prop} [Decidable c] {a : α} : (if c then a else a) = a := by simp
theorem t_nonneg {n : Nat} : ((0 : Int) ≤ (n : Int)) = True := by simp
theorem t_eqCast {a b : Nat} : ((a : Int) = (b : Int)) = (a = b) := by simp [Int.ofNat_inj]
theorem t_leCast {a b : Nat} : ((a : Int) ≤ (b : Int)) = (a ≤ b) := by simp
theorem t_gt {a b : Int} : (a > b) = (b < a) := rfl
theorem t_ge {a b : Int} : (a ≥ b) = (b ≤ a) := rfl
theorem t_ltCast {a b : Nat} : ((a : Int) < (b : Int)) = (a < b) := by simp
end
end Pv

namespace Pv
open Go
attribute [go_sem] not_true_eq_false not_false_eq_true true_and and_true false_and and_false Bool.false_or Bool.true_or Bool.or_true Bool.or_false Bool.true_and Bool.and_true Bool.false_and Bool.and_false Bool.not_true Bool.not_false decide_true decide_false Bool.false_eq_true or_false false_or or_true true_or and_self or_self Nat.zero_add Nat.add_zero not_or Bool.or_self Bool.and_self decide_not Bool.not_not t_ne t_refl t_beq t_lenMap t_lenApp t_lenRep t_lenSet t_getMap t_mapSome t_toNat t_cast0 t_nodup0 t_nodupC t_mem0 t_memC t_itself t_nonneg t_eqCast t_leCast t_gt t_ge t_ltCast s_at s_bo s_bn s_rq s_cwt s_cwf s_on1 s_on2 s_on3 s_skip s_ret s_exit s_reg s_drw s_seq s_cond s_block s_loop s_outNrm s_outRet s_outExit s_notNrm s_notRet s_boolV s_WOnil s_WOcons s_WOgrd s_WDnil s_WDcons s_WI s_WIg s_pinned0 s_pinnedN s_pinnedC s_held0 s_heldC s_boxBad0 s_boxBadC s_moves s_grd s_opvT s_opvC s_get0 s_getC s_set0 s_setC s_upd0 s_updC s_drop0 s_dropL s_dropG s_ver s_nver s_getDs s_getDn s_ins0 s_insL s_insE s_insG s_insH s_put_one s_put_agg s_put_al s_put_ala s_put_slb s_put_ad s_put_rad s_put_tup s_put_none s_putTup0 s_putTupC s_map0 s_mapC s_grdt s_grdf s_grdu s_sc s_int s_scT s_intT s_slice s_slT s_slC s_slA s_slB s_slV s_slVB s_ofTmp s_place s_cell s_cells s_rowOne s_rowAgg s_backOne s_backAgg s_gr0 s_grC s_grV s_srt0 s_srtC s_srV s_splice s_putP s_shift0 s_shiftC s_sp1 s_sp2 s_noSc s_noSl s_noPtr' s_noClo s_noMr s_noDead s_dSc s_dSl s_dPtr s_dClo s_dMr s_dDead s_iSc s_iSl s_iPtr s_pSc s_pSl s_pPtr s_pDead s_mvSc s_mvSl s_mvPtr s_mvClo s_mvMr s_alSc s_alSl s_alPtr s_alClo s_alaOf s_stSc s_stSl s_stPtr s_avSl s_mr0 s_mrC s_merge s_lw0 s_lwC s_deads s_roRow0 s_roRowC s_roSc s_roSl s_roPtr s_roRows0 s_take s_tkOne s_tkAgg s_tkOneC s_tkAggC s_tkAl s_tkAla s_tkSlb s_slbV s_takeAt s_mkT0 s_mkT1 s_movet s_movec s_moveca s_mvOne s_mvAgg s_mvAl s_mvAla s_mvSlb s_mvAd s_mvRad s_mvTup s_tt0 s_ttC s_takePart s_isAgg1 s_isAgg2 s_assign s_asOne s_asAgg s_asAl s_asAla s_asSlb s_asAd s_asRad s_len s_bin s_un s_conv s_convV s_pick s_box s_ifNone s_alloc s_fld s_fldP s_fldA s_fldR s_nil s_nilP s_nilF s_nilA s_nilR s_ida s_idaP s_idaR s_load s_ldR s_ldPt s_ldA s_ldP s_loadN s_lnR s_lnP s_lnA s_addr s_adP s_adA s_store s_fieldV s_fvA s_fvB s_lookA s_lkA s_lkB s_eq s_takeL0 s_takeLC s_build s_br0 s_brC s_bsl s_brs0 s_brsC s_mks s_ext s_app s_appIn s_appMv s_appO1 s_appO2 s_slc s_mkf s_binB s_mm0 s_mmC s_slcOf s_slcG s_slcP1 s_slcP2 s_inR s_inL s_inP s_gi s_mkf1 s_mkfV1 s_mkfV2 s_fieldN s_fnA s_fnB s_mx s_mn s_i64V s_lenC b_add b_sub b_mul b_quo b_rem b_eql b_neq b_lss b_leq b_gtr b_geq u_not u_neg e_int e_bool e_k0 e_kC e_ib e_ii k_keep0 k_keepC k_kept k_con0 k_conC k_one k_agg k_al k_ala k_slb k_ad k_rad k_tup k_mp k_pSc k_pSl k_pPtr k_pMr k_pClo k_pDead k_q1 k_q2 k_fm0 k_fmC k_all0 k_allC k_any0 k_anyC k_app0 k_appC k_emp0 k_empC k_len0 k_lenC k_at0 k_atS k_tk0 k_tkS k_tkN k_dp0 k_dpS k_dpN k_st0 k_stS k_sum0 k_sumC k_rep0 k_rep1 k_appNil k_norm k_ng0 k_ngC k_n1 k_n2 k_n3 k_n4 k_n5 k_n6 k_n7 k_n8 k_verIs k_gs k_gn d_restr d_rg0 d_rgC d_rgS d_rgN d_mix d_lay0 d_layC d_oi0 d_oiC d_ni0 d_niC d_clear0 d_clearL d_ok d_sim d_hd1 d_hd2 d_hd3 d_soft d_softT d_dr d_dr2 d_dr3 d_dr4 d_dr5 d_dr6 d_dr7 d_dr8 d_dr9 d_po0 d_poL d_poG c_call c_callK c_in c_cloT c_in1 c_in2 c_in3 c_hand c_h1 c_h2 c_h3 c_h4 c_h5 c_h6 c_ha0 c_haC c_ioH1 c_ioH2 c_va0 c_vaC c_nOwn0 c_nOwnSc c_nOwnSl c_nOwnPtr c_nOwnMr c_nOwnD c_nOwnClo c_lend0 c_lendSc c_lendSl c_lendPtr c_lendMr c_lendD c_lendClo c_upRo c_upOwn c_upLent c_upPart c_dnRo c_dnOwn c_up0 c_ml0 c_mlC c_mlSc c_mlSl c_mlPtr c_mlMr c_pT1 c_pT2 c_pT3 c_reach0 c_reachC c_reachO c_reachN c_boxRow c_boxA c_boxM c_boxO c_rows0 c_rowsC c_lr0 c_lrC c_lrP c_lrN c_lt0 c_ltC c_ltP c_takeIo0 c_takeIoC c_takeOne c_toA c_toB c_whole c_ren1 c_ren2 c_rSc c_rSl c_rPtr c_rMr c_rClo c_r0Sc c_r0Ptr c_rDead c_intoBox c_idxC c_backBox c_gN c_back c_backRows c_nb0 c_nb1 c_pr0 c_prC c_pbA c_pbM c_pi0 c_piC c_b30 c_b3C c_ios c_iosc c_tops1 c_tops2 c_tops3 c_top1 c_top2 c_an0 c_anC c_anSc c_anSl c_anPtr c_anMr c_anDead c_ar0 c_lowO c_lowR c_lowL c_lowP c_low0 c_home1 c_home2 c_home3 c_hm1 c_hm2 c_hvSc c_hvO c_hvR c_hvPtr c_hvMr c_ptrRow f_start f_ag1 f_ag2 f_sa0 f_saC f_se0 f_seC f_ea f_eaM f_mpSc f_mpSl f_mpPtr f_io0 f_ioC f_fin f_ra0 f_raC f_rt f_rc f_ptrPl f_res0 f_resN f_isS f_isN f_isP f_er0 f_erC f_ioo0 f_iooC f_okPtr f_isExt f_fo1 f_fo2 f_fo3 f_fo4 f_fo5 f_fo6
end Pv

set_option linter.unusedVariables false
set_option linter.defProp false
namespace Pv
open Go
theorem w64 {x : Int} (h1 : -9223372036854775808 ≤ x) (h2 : x < 9223372036854775808) : IntKind.i64.wrap x = x := by
  simp only [IntKind.wrap, IntKind.signed, IntKind.bits]
  simp
  omega
theorem wS {n : Nat} (h : n < 4611686018427387904) : IntKind.i64.wrap ((n : Int) + 1) = ((n + 1 : Nat) : Int) := by rw [w64 (by omega) (by omega)]; simp
def encI (x : Int) : List V := [.sc (.int .i64 x)]
def encB (x : Bool) : List V := [.sc (.bool x)]
def encP (x : Bool × Int) : List V := [.sc (.bool x.1), .sc (.int .i64 x.2)]
structure Mv where
  kind : Int
  fr : Int
  to : Int
  val : Int
deriving DecidableEq
def encM (x : Mv) : List V := [.sc (.int .i64 x.kind), .sc (.int .i64 x.fr), .sc (.int .i64 x.to), .sc (.int .i64 x.val)]
def encU (x : Int) : List V := [.sc (.int .u8 x)]
def encS {α : Type} (l : Lab) (sz : Nat) (f : α → List V) (xs : List α) : List V := [.sl l sz (xs.map f)]
def Flat {α : Type} (f : α → List V) : Prop := ∀ a, (f a).all V.isSc = true
theorem flatI : Flat encI := fun _ => rfl
theorem flatB : Flat encB := fun _ => rfl
theorem flatP : Flat encP := fun _ => rfl
theorem flatM : Flat encM := fun _ => rfl
theorem flatU : Flat encU := fun _ => rfl
theorem sc_ml (φ : Lab → Lab) : ∀ (r : List V), r.all V.isSc = true → mapLRow φ r = r
  | [], _ => rfl
  | v :: r, h => by
    rw [List.all_cons, Bool.and_eq_true] at h
    obtain ⟨hv, h⟩ := h
    cases v <;> first | cases hv | skip
    rw [mapLRow, sc_ml φ r h]; rfl
theorem sc_prt (m n : Nat) : ∀ (r : List V), r.all V.isSc = true → prtRow m n r = r
  | [], _ => rfl
  | v :: r, h => by
    rw [List.all_cons, Bool.and_eq_true] at h
    obtain ⟨hv, h⟩ := h
    cases v <;> first | cases hv | skip
    rw [prtRow, sc_prt m n r h]; rfl
theorem sc_ro : ∀ (r : List V), r.all V.isSc = true → roRow r = r
  | [], _ => rfl
  | v :: r, h => by
    rw [List.all_cons, Bool.and_eq_true] at h
    obtain ⟨hv, h⟩ := h
    cases v <;> first | cases hv | skip
    rw [roRow, sc_ro r h]; rfl
theorem sc_any (q : Lab → Bool) : ∀ (r : List V), r.all V.isSc = true → anyLRow q r = false
  | [], _ => rfl
  | v :: r, h => by
    rw [List.all_cons, Bool.and_eq_true] at h
    obtain ⟨hv, h⟩ := h
    cases v <;> first | cases hv | skip
    rw [anyLRow, sc_any q r h]; rfl
theorem sc_dead : ∀ (r : List V), r.all V.isSc = true → r.any V.isDead = false ∧ r.all V.noOwn = true
  | [], _ => ⟨rfl, rfl⟩
  | v :: r, h => by
    rw [List.all_cons, Bool.and_eq_true] at h
    obtain ⟨hv, h⟩ := h
    cases v <;> first | cases hv | skip
    obtain ⟨h1, h2⟩ := sc_dead r h
    exact ⟨by simp only [List.any_cons, V.isDead, Bool.false_or]; exact h1, by simp only [List.all_cons, V.noOwn, Bool.true_and]; exact h2⟩
section
variable {α : Type} {f : α → List V}
theorem fl_ml (hf : Flat f) {φ : Lab → Lab} {l : List α} : mapLRows φ (l.map f) = l.map f := by
  induction l with
  | nil => rfl
  | cons x l ih => rw [List.map_cons, mapLRows, ih, sc_ml _ _ (hf x)]
theorem fl_prt (hf : Flat f) {m n : Nat} {l : List α} : prtRows m n (l.map f) = l.map f := by
  induction l with
  | nil => rfl
  | cons x l ih => rw [List.map_cons, prtRows, ih, sc_prt _ _ _ (hf x)]
theorem fl_ro (hf : Flat f) {l : List α} : roRows (l.map f) = l.map f := by
  induction l with
  | nil => rfl
  | cons x l ih => rw [List.map_cons, roRows, ih, sc_ro _ (hf x)]
theorem fl_any (hf : Flat f) {q : Lab → Bool} {l : List α} : anyLRows q (l.map f) = false := by
  induction l with
  | nil => rfl
  | cons x l ih => rw [List.map_cons, anyLRows, ih, sc_any _ _ (hf x)]; rfl
theorem fl_dead (hf : Flat f) {l : List α} : ((l.map f).any fun r => r.any V.isDead) = false := by
  rw [List.any_map, List.any_eq_false]; intro x _; simp only [Function.comp]; rw [(sc_dead _ (hf x)).1]; simp
theorem fl_own (hf : Flat f) {l : List α} : ((l.map f).all fun r => r.all V.noOwn) = true := by
  rw [List.all_map, List.all_eq_true]; intro x _; simp only [Function.comp]; exact (sc_dead _ (hf x)).2
theorem fl_ml2 (hf : Flat f) {φ : Lab → Lab} {l : Lab} {sz : Nat} {xs : List (List α)} : mapLRows φ (xs.map (encS l sz f)) = xs.map (encS (φ l) sz f) := by
  induction xs with
  | nil => rfl
  | cons x xs ih => simp only [List.map_cons, mapLRows, ih, encS, mapLRow, V.mapL, fl_ml hf]
theorem fl_prt2 (hf : Flat f) {m n : Nat} {l : Lab} {sz : Nat} {xs : List (List α)} : prtRows m n (xs.map (encS l sz f)) = xs.map (encS (if l = .own then .part n else l.up m) sz f) := by
  induction xs with
  | nil => rfl
  | cons x xs ih =>
    simp only [List.map_cons, prtRows, ih, encS, prtRow]
    congr 2
    cases l <;> simp [V.prt, fl_prt hf, V.up, V.mapL, fl_ml hf]
theorem fl_ro2 (hf : Flat f) {l : Lab} {sz : Nat} {xs : List (List α)} : roRows (xs.map (encS l sz f)) = xs.map (encS (if l = .own then .ro else l) sz f) := by
  induction xs with
  | nil => rfl
  | cons x xs ih =>
    simp only [List.map_cons, roRows, ih, encS, roRow]
    congr 2
    cases l <;> simp [V.ro, fl_ro hf]
theorem fl_any2 (hf : Flat f) {q : Lab → Bool} {l : Lab} {sz : Nat} {xs : List (List α)} (hq : q l = false) : anyLRows q (xs.map (encS l sz f)) = false := by
  induction xs with
  | nil => rfl
  | cons x xs ih => simp only [List.map_cons, anyLRows, ih, encS, anyLRow, V.anyL, fl_any hf, hq]; rfl
theorem fl_dead2 {l : Lab} {sz : Nat} {xs : List (List α)} : ((xs.map (encS l sz f)).any fun r => r.any V.isDead) = false := by
  rw [List.any_map, List.any_eq_false]; intro x _; simp [Function.comp, encS, V.isDead]
theorem fl_own2 {l : Lab} {sz : Nat} {xs : List (List α)} (hl : l ≠ .own) : ((xs.map (encS l sz f)).all fun r => r.all V.noOwn) = true := by
  rw [List.all_map, List.all_eq_true]; intro x _; simp [Function.comp, encS, V.noOwn, hl]
theorem fl_app {l k : List α} : l.map f ++ k.map f = (l ++ k).map f := by simp
theorem fl_take {l : List α} {n : Nat} : (l.map f).take n = (l.take n).map f := by simp
theorem fl_drop {l : List α} {n : Nat} : (l.map f).drop n = (l.drop n).map f := by simp
theorem fl_setI {l : List Int} {i : Nat} {x : Int} : (l.map encI).set i [.sc (.int .i64 x)] = (l.set i x).map encI := by rw [List.map_set]; rfl
theorem fl_setB {l : List Bool} {i : Nat} {x : Bool} : (l.map encB).set i [.sc (.bool x)] = (l.set i x).map encB := by rw [List.map_set]; rfl
theorem fl_setS {lb : Lab} {sz : Nat} {xs : List (List α)} {i : Nat} {ys : List α} : (xs.map (encS lb sz f)).set i [.sl lb sz (ys.map f)] = (xs.set i ys).map (encS lb sz f) := by rw [List.map_set]; rfl
theorem fl_snI {l : List Int} {x : Int} : l.map encI ++ [[.sc (.int .i64 x)]] = (l ++ [x]).map encI := by simp [encI]
theorem fl_snB {l : List Bool} {x : Bool} : l.map encB ++ [[.sc (.bool x)]] = (l ++ [x]).map encB := by simp [encB]
theorem fl_snP {l : List (Bool × Int)} {x : Bool} {y : Int} : l.map encP ++ [[.sc (.bool x), .sc (.int .i64 y)]] = (l ++ [(x, y)]).map encP := by simp [encP]
theorem fl_snM {l : List Mv} {a b c d : Int} : l.map encM ++ [[.sc (.int .i64 a), .sc (.int .i64 b), .sc (.int .i64 c), .sc (.int .i64 d)]] = (l ++ [Mv.mk a b c d]).map encM := by simp [encM]
theorem fl_snS {lb : Lab} {sz : Nat} {xs : List (List α)} {ys : List α} : xs.map (encS lb sz f) ++ [[.sl lb sz (ys.map f)]] = (xs ++ [ys]).map (encS lb sz f) := by simp [encS]
theorem fl_repI {n : Nat} {x : Int} : List.replicate n [V.sc (.int .i64 x)] = (List.replicate n x).map encI := by simp [encI]
theorem fl_repB {n : Nat} {x : Bool} : List.replicate n [V.sc (.bool x)] = (List.replicate n x).map encB := by simp [encB]
theorem fl_encI {x : Int} : encI x = [.sc (.int .i64 x)] := rfl
theorem fl_encB {x : Bool} : encB x = [.sc (.bool x)] := rfl
theorem fl_encP {x : Bool × Int} : encP x = [.sc (.bool x.1), .sc (.int .i64 x.2)] := rfl
theorem fl_encM {x : Mv} : encM x = [.sc (.int .i64 x.kind), .sc (.int .i64 x.fr), .sc (.int .i64 x.to), .sc (.int .i64 x.val)] := rfl
theorem fl_encU {x : Int} : encU x = [.sc (.int .u8 x)] := rfl
theorem fl_encS {lb : Lab} {sz : Nat} {ys : List α} : encS lb sz f ys = [.sl lb sz (ys.map f)] := rfl
end
theorem g_mlI {φ : Lab → Lab} {l : List _} : mapLRows φ (l.map encI) = l.map encI := fl_ml flatI
theorem g_prtI {m n : Nat} {l : List _} : prtRows m n (l.map encI) = l.map encI := fl_prt flatI
theorem g_roI {l : List _} : roRows (l.map encI) = l.map encI := fl_ro flatI
theorem g_anyI {q : Lab → Bool} {l : List _} : anyLRows q (l.map encI) = false := fl_any flatI
theorem g_deadI {l : List _} : ((l.map encI).any fun r => r.any V.isDead) = false := fl_dead flatI
theorem g_ownI {l : List _} : ((l.map encI).all fun r => r.all V.noOwn) = true := fl_own flatI
theorem g_mlsI {φ : Lab → Lab} {l : Lab} {sz : Nat} {xs : List (List _)} : mapLRows φ (xs.map (encS l sz encI)) = xs.map (encS (φ l) sz encI) := fl_ml2 flatI
theorem g_prtsI {m n : Nat} {l : Lab} {sz : Nat} {xs : List (List _)} : prtRows m n (xs.map (encS l sz encI)) = xs.map (encS (if l = .own then .part n else l.up m) sz encI) := fl_prt2 flatI
theorem g_rosI {l : Lab} {sz : Nat} {xs : List (List _)} : roRows (xs.map (encS l sz encI)) = xs.map (encS (if l = .own then .ro else l) sz encI) := fl_ro2 flatI
theorem g_anysI {q : Lab → Bool} {l : Lab} {sz : Nat} {xs : List (List _)} (hq : q l = false) : anyLRows q (xs.map (encS l sz encI)) = false := fl_any2 flatI hq
theorem g_mlB {φ : Lab → Lab} {l : List _} : mapLRows φ (l.map encB) = l.map encB := fl_ml flatB
theorem g_prtB {m n : Nat} {l : List _} : prtRows m n (l.map encB) = l.map encB := fl_prt flatB
theorem g_roB {l : List _} : roRows (l.map encB) = l.map encB := fl_ro flatB
theorem g_anyB {q : Lab → Bool} {l : List _} : anyLRows q (l.map encB) = false := fl_any flatB
theorem g_deadB {l : List _} : ((l.map encB).any fun r => r.any V.isDead) = false := fl_dead flatB
theorem g_ownB {l : List _} : ((l.map encB).all fun r => r.all V.noOwn) = true := fl_own flatB
theorem g_mlsB {φ : Lab → Lab} {l : Lab} {sz : Nat} {xs : List (List _)} : mapLRows φ (xs.map (encS l sz encB)) = xs.map (encS (φ l) sz encB) := fl_ml2 flatB
theorem g_prtsB {m n : Nat} {l : Lab} {sz : Nat} {xs : List (List _)} : prtRows m n (xs.map (encS l sz encB)) = xs.map (encS (if l = .own then .part n else l.up m) sz encB) := fl_prt2 flatB
theorem g_rosB {l : Lab} {sz : Nat} {xs : List (List _)} : roRows (xs.map (encS l sz encB)) = xs.map (encS (if l = .own then .ro else l) sz encB) := fl_ro2 flatB
theorem g_anysB {q : Lab → Bool} {l : Lab} {sz : Nat} {xs : List (List _)} (hq : q l = false) : anyLRows q (xs.map (encS l sz encB)) = false := fl_any2 flatB hq
theorem g_mlP {φ : Lab → Lab} {l : List _} : mapLRows φ (l.map encP) = l.map encP := fl_ml flatP
theorem g_prtP {m n : Nat} {l : List _} : prtRows m n (l.map encP) = l.map encP := fl_prt flatP
theorem g_roP {l : List _} : roRows (l.map encP) = l.map encP := fl_ro flatP
theorem g_anyP {q : Lab → Bool} {l : List _} : anyLRows q (l.map encP) = false := fl_any flatP
theorem g_deadP {l : List _} : ((l.map encP).any fun r => r.any V.isDead) = false := fl_dead flatP
theorem g_ownP {l : List _} : ((l.map encP).all fun r => r.all V.noOwn) = true := fl_own flatP
theorem g_mlsP {φ : Lab → Lab} {l : Lab} {sz : Nat} {xs : List (List _)} : mapLRows φ (xs.map (encS l sz encP)) = xs.map (encS (φ l) sz encP) := fl_ml2 flatP
theorem g_prtsP {m n : Nat} {l : Lab} {sz : Nat} {xs : List (List _)} : prtRows m n (xs.map (encS l sz encP)) = xs.map (encS (if l = .own then .part n else l.up m) sz encP) := fl_prt2 flatP
theorem g_rosP {l : Lab} {sz : Nat} {xs : List (List _)} : roRows (xs.map (encS l sz encP)) = xs.map (encS (if l = .own then .ro else l) sz encP) := fl_ro2 flatP
theorem g_anysP {q : Lab → Bool} {l : Lab} {sz : Nat} {xs : List (List _)} (hq : q l = false) : anyLRows q (xs.map (encS l sz encP)) = false := fl_any2 flatP hq
theorem g_mlM {φ : Lab → Lab} {l : List _} : mapLRows φ (l.map encM) = l.map encM := fl_ml flatM
theorem g_prtM {m n : Nat} {l : List _} : prtRows m n (l.map encM) = l.map encM := fl_prt flatM
theorem g_roM {l : List _} : roRows (l.map encM) = l.map encM := fl_ro flatM
theorem g_anyM {q : Lab → Bool} {l : List _} : anyLRows q (l.map encM) = false := fl_any flatM
theorem g_deadM {l : List _} : ((l.map encM).any fun r => r.any V.isDead) = false := fl_dead flatM
theorem g_ownM {l : List _} : ((l.map encM).all fun r => r.all V.noOwn) = true := fl_own flatM
theorem g_mlsM {φ : Lab → Lab} {l : Lab} {sz : Nat} {xs : List (List _)} : mapLRows φ (xs.map (encS l sz encM)) = xs.map (encS (φ l) sz encM) := fl_ml2 flatM
theorem g_prtsM {m n : Nat} {l : Lab} {sz : Nat} {xs : List (List _)} : prtRows m n (xs.map (encS l sz encM)) = xs.map (encS (if l = .own then .part n else l.up m) sz encM) := fl_prt2 flatM
theorem g_rosM {l : Lab} {sz : Nat} {xs : List (List _)} : roRows (xs.map (encS l sz encM)) = xs.map (encS (if l = .own then .ro else l) sz encM) := fl_ro2 flatM
theorem g_anysM {q : Lab → Bool} {l : Lab} {sz : Nat} {xs : List (List _)} (hq : q l = false) : anyLRows q (xs.map (encS l sz encM)) = false := fl_any2 flatM hq
theorem g_mlU {φ : Lab → Lab} {l : List _} : mapLRows φ (l.map encU) = l.map encU := fl_ml flatU
theorem g_prtU {m n : Nat} {l : List _} : prtRows m n (l.map encU) = l.map encU := fl_prt flatU
theorem g_roU {l : List _} : roRows (l.map encU) = l.map encU := fl_ro flatU
theorem g_anyU {q : Lab → Bool} {l : List _} : anyLRows q (l.map encU) = false := fl_any flatU
theorem g_deadU {l : List _} : ((l.map encU).any fun r => r.any V.isDead) = false := fl_dead flatU
theorem g_ownU {l : List _} : ((l.map encU).all fun r => r.all V.noOwn) = true := fl_own flatU
theorem g_mlsU {φ : Lab → Lab} {l : Lab} {sz : Nat} {xs : List (List _)} : mapLRows φ (xs.map (encS l sz encU)) = xs.map (encS (φ l) sz encU) := fl_ml2 flatU
theorem g_prtsU {m n : Nat} {l : Lab} {sz : Nat} {xs : List (List _)} : prtRows m n (xs.map (encS l sz encU)) = xs.map (encS (if l = .own then .part n else l.up m) sz encU) := fl_prt2 flatU
theorem g_rosU {l : Lab} {sz : Nat} {xs : List (List _)} : roRows (xs.map (encS l sz encU)) = xs.map (encS (if l = .own then .ro else l) sz encU) := fl_ro2 flatU
theorem g_anysU {q : Lab → Bool} {l : Lab} {sz : Nat} {xs : List (List _)} (hq : q l = false) : anyLRows q (xs.map (encS l sz encU)) = false := fl_any2 flatU hq
attribute [go_sem] fl_setI fl_setB fl_snI fl_snB fl_snP fl_snM fl_repI fl_repB fl_encI fl_encB fl_encP fl_encM fl_encU fl_app fl_take fl_drop fl_setS fl_snS fl_encS fl_dead2 fl_own2 g_mlI g_prtI g_roI g_anyI g_deadI g_ownI g_mlsI g_prtsI g_rosI g_anysI g_mlB g_prtB g_roB g_anyB g_deadB g_ownB g_mlsB g_prtsB g_rosB g_anysB g_mlP g_prtP g_roP g_anyP g_deadP g_ownP g_mlsP g_prtsP g_rosP g_anysP g_mlM g_prtM g_roM g_anyM g_deadM g_ownM g_mlsM g_prtsM g_rosM g_anysM g_mlU g_prtU g_roU g_anyU g_deadU g_ownU g_mlsU g_prtsU g_rosU g_anysU
end Pv
