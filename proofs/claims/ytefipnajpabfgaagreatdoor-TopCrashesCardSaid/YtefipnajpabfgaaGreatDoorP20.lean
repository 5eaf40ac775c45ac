/- Part 20 of the proof: what functions of the program do, and plain facts on what they compute. -/
import Derived.Test.YtefipnajpabfgaaGreatDoorP19
set_option linter.all false
set_option maxRecDepth 40000
set_option maxHeartbeats 16000000
set_option linter.unusedSimpArgs false
set_option linter.unusedVariables false
namespace Go.Proofs.YtefipnajpabfgaaGreatDoor
open Go.Nm


def blrow (b : Bool) : List PV := [.b b]
theorem blrow_at {l : List Bool} {i : Nat} (h : i < l.length) : (l.map blrow).getD i [] = [.b (l.getD i false)] := by
 rw [List.getD_eq_getElem?_getD, List.getElem?_map, List.getElem?_eq_getElem h, List.getD_eq_getElem?_getD, List.getElem?_eq_getElem h]; rfl
theorem getD_out {α : Type} {l : List α} {i : Nat} {d : α} (h : ¬ i < l.length) : l.getD i d = d := by
 rw [List.getD_eq_getElem?_getD, List.getElem?_eq_none (by omega)]; rfl
/-- the commits of some batches -/
def comsL : Nat → List Bt → List (List Cel)
 | _, [] => []
 | n, b :: r => comL n b.2.2.2 :: comsL (n + 1) r
theorem comsL_len : ∀ (n : Nat) (l : List Bt), (comsL n l).length = l.length
 | _, [] => rfl
 | n, b :: r => by rw [comsL, List.length_cons, List.length_cons, comsL_len]
/-- the inside of a database that may crash -/
structure DbInv2 (Inv : List Bt → Nat → PgM → Nat → List Cel → LogS → Sec → Nat → Prop) : Prop where
 zero : Inv [] 0 W0 1 [] A0 [] 0
 fact : ∀ {ds u W m l a g sy}, Inv ds u W m l a g sy → DbF ds W m l ∧ SecOK a.v ∧ u ≤ ds.length
 step : ∀ {ds u W m l a g sy} (cl r s : Int) (ws : List Wt), Inv ds u W m l a g sy → ds.length < 12 → chk ws = 0 → ∃ W' m' l' b, LApp (showS (comL (ds.length + 1) ws)) a b ∧ Puts W m (comL (ds.length + 1) ws) W' m' ∧ Inv (ds ++ [(cl, r, s, ws)]) u W' m' l' b g sy
 sync : ∀ {ds u W m l a g sy g'}, Inv ds u W m l a g sy → g'.Perm a.v → Inv ds ds.length W m l ⟨a.sg, a.st, a.last, a.v, []⟩ g' a.last
 crash : ∀ {ds u W m l a g sy} (sv : List (Int × Int)), Inv ds u W m l a g sy → ds.length ≤ 12 → sv.length ≤ 60 → ∃ (P : List (Nat × List UInt8)) (r : Nat) (W' : PgM) (m' : Nat) (l' : List Cel), a.P = P.map wrt ∧ SecOK g ∧ (∀ w ∈ P, w.2.length ≤ 512) ∧ P.length ≤ 100000 ∧ u ≤ r ∧ r ≤ ds.length ∧ (∀ v', v'.Perm (crashG sv 0 g P) → OpnS v' (comsL 1 (ds.take r))) ∧ Runs W0 1 (comsL 1 (ds.take r)) W' m' ∧ DbF (ds.take r) W' m' l'

theorem crashes_ok {Inv : List Bt → Nat → PgM → Nat → List Cel → LogS → Sec → Nat → Prop} (hI0 : DbInv2 Inv) (hal : CallT Tryz.prog 7 [] [] fun r σ => r = .u (.b true) ∧ σ = []) (bts : List Bt) (bl : List Bool) (sv : List (Int × Int)) (q q3 q4 : Option Nat) (hb : bts.length ≤ 9223372036854775807) (hbl : bl.length ≤ 9223372036854775807) (hsv : sv.length ≤ 9223372036854775807) (hpos : ∀ b ∈ bts, 0 ≤ b.2.2.1) : CallT Tryz.prog 4 [.u (.fz (bts.map brow) q), .u (.fz (bl.map blrow) q3), .u (.fz (sv.map svrow) q4)] []
  fun r σ => r = .u (.b true) ∧ σ = [] := by
 have hfr := fresh_ok (hI0.fact hI0.zero).1.rd
 have hnw := new_ok 0
 have hall := all_ok
 unfold vwL vwm A0 at hfr
 simp only [show bs [] = [] from rfl] at hfr
 unfold jcells at hnw
 refine cof 158 [.tmp 6] Tryz.func4 Tryz.ntmps4 fun c hnt hc0 => ?_
 refine sq fun _ k1 => rgn 0 ?_
 repeat refine ⟨sd, ?_⟩
 refine k1 (sq fun _ k2 => rgn 0 ?_)
 repeat refine ⟨sd, ?_⟩
 refine callT_new hfr mB ?_
 refine fxl ?_
 refine evl ?_
 repeat refine ⟨sd, ?_⟩
 refine k2 (sq fun _ k3 => rgn 0 ?_)
 repeat refine ⟨sd, ?_⟩
 refine callT_new hnw mB ?_
 refine fxl ?_
 refine evl ?_
 repeat refine ⟨sd, ?_⟩
 refine k3 (sq fun _ k4 => sq fun _ k5 => rgn 0 ?_)
 repeat refine ⟨sd, ?_⟩
 refine callT_at [] [] hal rfl rfl trivial mB mB rfl mR mR ?_
 refine evl ?_
 repeat refine ⟨sd, ?_⟩
 refine k5 (cd rfl (fun h1 => ?_) (fun h1 => ?_))
 ·refine sq fun _ k6 => ?_
  refine wps_keep [] mK ?_
  refine rgn 0 ?_
  repeat refine ⟨sd, ?_⟩
  refine callT_at [] [] hal rfl rfl trivial mB mB rfl mR mR ?_
  refine evl ?_
  repeat refine ⟨sd, ?_⟩
  refine k6 (wps_ret ?_)
  refine retL [] mA mO rfl rfl ?_
  exact mT
 ·refine wps_skip (k4 (sq fun _ k7 => ?_))
  refine wps_keep [0, 1, 2, 7, 8, 9, 10] mK ?_
  refine rgn 0 ?_
  repeat refine ⟨sd, ?_⟩
  refine k7 (sq fun _ k8 => sq fun _ k9 => rgn 0 ?_)
  repeat refine ⟨sd, ?_⟩
  refine k9 (bk fun _ k10 => ?_)
  have hsv60 : sv.length ≤ 60 := by simp at h1; omega
  refine wps_loop (fun n e σ => ∃ (i : Nat) (ds : List Bt) (u : Nat) (W : PgM) (m : Nat) (l : List Cel) (a : LogS) (g : Sec) (sy : Nat) (J : Jd) (q1 q2 : Option Nat), n = bts.length - i ∧ i ≤ bts.length ∧ i ≤ 12 ∧ ds.length ≤ i ∧ (∀ b ∈ ds, b.2.2.2.length ≤ 20) ∧ Inv ds u W m l a g sy ∧ JI ds J ∧ e = [(0, .u (.fz (bts.map brow) q)), (1, .u (.fz (bl.map blrow) q3)), (2, .u (.fz (sv.map svrow) q4)), (7, .p 8 0), (8, .p 1 0), (9, .p 0 0), (10, .p 13 0), (11, .h 16), (12, .u (.i .u64 (u : Int))), (13, .u (.i .i64 (i : Int)))] ∧ σ = [.cells [.p 1 0, .u (.i .u64 (ds.length : Int)), .u (.i .u64 0)], .cells [.p 2 0, .p 3 0, .p 12 0], .cells [.p 3 0], .cells [.p 8 0, .p 7 0, .u (.i .i64 0), .u (.i .i64 200), .u (.i .u64 0), .h 4, .h 5, .h 6], .map [], .map ((enc W).map sent), .map [], .cells [.p 8 0, .u (.i .i64 0), .u (.i .u64 0), .u (.i .i64 1)], .cells [.u (.i .i64 1000), .u (.i .i64 1000), .h 9, .h 10, .h 11], .map (a.v.map sent), .map (g.map sent), .row 116 1 (a.P.map prow), .cells [.p 8 0, .u (.i .i64 802), .u (.i .i64 8), .u (.i .i64 16), .u (.fz (a.sg.map segrow) q1), .u (.fz (bs a.st) q2), .u (.i .u64 (a.last : Int)), .u (.i .u64 (sy : Int))], .cells [.u (.i .u64 J.last), .h 14, .h 15], .map (J.ks.map kent), .map (J.ts.map tent), .row 34 4 (ds.map brow)])
   (e0 := [(0, .u (.fz (bts.map brow) q)), (1, .u (.fz (bl.map blrow) q3)), (2, .u (.fz (sv.map svrow) q4)), (7, .p 8 0), (8, .p 1 0), (9, .p 0 0), (10, .p 13 0), (11, .h 16), (12, .u (.i .u64 (0 : Int))), (13, .u (.i .i64 0))]) (σ0 := [.cells [.p 1 0, .u (.i .u64 (((0 : Nat) : Int) : Int)), .u (.i .u64 0)], .cells [.p 2 0, .p 3 0, .p 12 0], .cells [.p 3 0], .cells [.p 8 0, .p 7 0, .u (.i .i64 0), .u (.i .i64 200), .u (.i .u64 0), .h 4, .h 5, .h 6], .map [], .map ((enc W0).map sent), .map [], .cells [.p 8 0, .u (.i .i64 0), .u (.i .u64 0), .u (.i .i64 1)], .cells [.u (.i .i64 1000), .u (.i .i64 1000), .h 9, .h 10, .h 11], .map (([] : Sec).map sent), .map (([] : Sec).map sent), .row 116 1 [], .cells [.p 8 0, .u (.i .i64 802), .u (.i .i64 8), .u (.i .i64 16), .u (.fz [] none), .u (.fz [] (some 0)), .u (.i .u64 (((0 : Nat) : Int) : Int)), .u (.i .u64 (((0 : Nat) : Int) : Int))], .cells [.u (.i .u64 0), .h 14, .h 15], .map [], .map [], .row 34 4 []]) ((ent_thaw 34 4 (t := 11) rfl).trans (entL hc0 [some 0, some 1, some 2, some 3, some 4, some 5, some 6, some 7, some 8, some 9, some 10, some 11, some 12, some 13, some 14, some 15, some 16] rfl rfl mB (by simp only [go_sem, reduceIte, Nat.reduceEqDiff, Nat.reduceAdd, Nat.reduceLT, List.map_nil, cast0]))) ⟨0, [], 0, W0, 1, [], A0, [], 0, ⟨0, [], []⟩, none, some 0, rfl, Nat.zero_le _, Nat.zero_le _, Nat.le_refl _, by simp, hI0.zero, JI.zero, rfl, rfl⟩ fun KL n e1 σ1 hI hKL => ?_
  obtain ⟨i, ds, u, W, m, l, a, g, sy, J, q1, q2, rfl, hi, hi12, hdl, hds, hInv, hJI, rfl, rfl⟩ := hI
  refine sq fun _ k11 => sq fun _ k12 => rgn 0 ?_
  repeat refine ⟨sd, ?_⟩
  refine k12 (cd rfl (fun h2 => ?_) (fun h2 => ?_))
  ·have hlt : i < bts.length ∧ i < 12 := by simp at h2; omega
   have hel := brow_at hlt.1
   obtain ⟨b0, hb0⟩ : ∃ b0, bts.getD i (0, 0, 0, []) = b0 := ⟨_, rfl⟩
   have hb0m : b0 ∈ bts := by rw [← hb0]; exact getD_mem hlt.1
   have hps := hpos b0 hb0m
   rw [hb0] at hel
   obtain ⟨cl, r, s, ws0⟩ := b0
   simp only at hel hps
   have hfw := fewer_ok cl r s ws0 none
   have hfl := fewW_len ws0
   obtain ⟨ws, hws⟩ : ∃ ws, fewW ws0 = ws := ⟨_, rfl⟩
   rw [hws] at hfw hfl
   have hcase := ji_say hJI cl r s ws hps
   have hJl := hJI.last
   have hsy := say_ok J cl r s ws none (by omega)
   obtain ⟨J', hJ'⟩ : ∃ J', (sayS J cl r s ws).2 = J' := ⟨_, rfl⟩
   rw [hJ'] at hcase hsy
   have hl' := last_ok J'.last (J'.ks.map kent) (J'.ts.map tent)
   simp only [bcells, Jd.obs, jcells] at hfw hsy hl'
   have hwi := wi1 i
   have hwu := wrapu_nat (n := ds.length) (by omega)
   refine wps_skip (k11 (sq fun _ k13 => bk fun _ k14 => sq fun _ k15 => rg 1 ?_))
   refine evx hel ?_
   repeat refine ⟨sd, ?_⟩
   refine callT_at [] [] hfw rfl rfl trivial mB mB rfl mR mR ?_
   refine evx hel ?_
   repeat refine ⟨sd, ?_⟩
   refine k15 (sq fun _ k16 => sq fun _ k17 => rgn 0 ?_)
   repeat refine ⟨sd, ?_⟩
   refine callT_at [13, 14, 15] [_, _, _] hsy rfl rfl ⟨rfl, rfl, rfl, trivial⟩ mB mB rfl mR mR ?_
   refine evl ?_
   repeat refine ⟨sd, ?_⟩
   refine k17 (sq fun _ k18 => rg 0 ?_)
   refine evx hwu ?_
   repeat refine ⟨sd, ?_⟩
   refine callT_at [13, 14, 15] [_, _, _] hl' rfl rfl ⟨rfl, rfl, rfl, trivial⟩ mB mB rfl mR mR ?_
   refine evx hwu ?_
   repeat refine ⟨sd, ?_⟩
   refine k18 (cd rfl (fun h3 => ?_) (fun h3 => ?_))
   ·refine wps_exit ?_
    simp only [reduceIte, Nat.reduceEqDiff]
    refine k14 (k13 ?_)
    refine wps_keep [0, 1, 2, 7, 8, 9, 10, 11, 12, 13] mK ?_
    refine rg 0 ?_
    refine evx hwi ?_
    repeat refine ⟨sd, ?_⟩
    have h3' : J'.last = ds.length := by simpa using h3
    have hJI' : JI ds J' := by
     rcases hcase with ⟨_, h⟩ | ⟨h, _⟩
     ·exact h
     ·omega
    exact hKL _ _ (bts.length - (i + 1)) _ _ (entL hc0 [some 0, some 1, some 2, some 3, some 4, some 5, some 6, some 7, some 8, some 9, some 10, some 11, some 12, some 13, some 14, some 15, some 16] rfl rfl mB mB) ⟨i + 1, ds, u, W, m, l, a, g, sy, J', q1, q2, rfl, by omega, by omega, by omega, hds, hInv, hJI', rfl, rfl⟩ (by omega)
   ·have h3' : ¬ J'.last = ds.length := by simpa using h3
    obtain ⟨hJl', hck, hsl, hval, hJI'⟩ : J'.last = ds.length + 1 ∧ chk ws = 0 ∧ s ≤ ds.length ∧ (∀ w ∈ ws, valR (ds.take s.toNat) w.1 = valR ds w.1) ∧ JI (ds ++ [(cl, r, s, ws)]) J' := by
     rcases hcase with ⟨h, _⟩ | h
     ·exact absurd h h3'
     ·exact h
    obtain ⟨jl, jk, jt⟩ := J'
    simp only at hJl' hl' ⊢
    rw [show (ds.length : Int) + 1 = ((ds.length + 1 : Nat) : Int) by omega] at hJl'
    subst hJl'
    have hr1 := brow_ok1 ds
    have hr2 := brow_ok2 ds
    have hdl' : (ds.map brow).length ≤ 100 := by rw [List.length_map]; omega
    obtain ⟨W', m', l', b, hL, hP, hInv'⟩ := hI0.step cl r s ws hInv (by omega) hck
    have hcm := vcommit_ok W W' m m' ws none q1 q2 a b sy ds.length (ds.length + 1) g hck rfl (by omega) (hI0.fact hInv).1.cnt (hI0.fact hInv).1.m64 hL hP (comL_size hck (by omega))
    unfold vwL vwm vwN at hcm
    simp only [List.cons_append, List.nil_append] at hcm
    have hlen : (ds ++ [(cl, r, s, ws)]).length = ds.length + 1 := by simp
    have hds' : ∀ x ∈ ds ++ [(cl, r, s, ws)], x.2.2.2.length ≤ 20 := by
     intro x hx
     rcases List.mem_append.1 hx with h | h
     ·exact hds x h
     ·rw [List.mem_singleton.1 h]
      show ws.length ≤ 20
      omega
    have hsy2 := ssync_ok W' (.fz (b.sg.map segrow) none) (.fz (bs b.st) none) b.last sy b.v g b.P (hI0.fact hInv').2.1
    unfold sto at hsy2
    have hvl := fun g' => vlast_ok W' (.fz (b.sg.map segrow) none) (.fz (bs b.st) none) b.last b.last b.v g' [] (ds.length + 1)
    unfold vwm at hvl
    simp only [List.map_nil] at hvl
    refine wps_skip (k16 (sq fun _ k19 => ?_))
    refine wps_keep [0, 1, 2, 7, 8, 9, 10, 11, 12, 13, 14] mK ?_
    refine rgn 1 ?_
    repeat refine ⟨sd, ?_⟩
    refine k19 (sq fun _ k20 => sq fun _ k21 => dr 1 [0, 0, 2, 0, 8, 31, 63] mixed ?_)
    refine evl ?_
    repeat refine ⟨sd, ?_⟩
    refine callE_at [13, 14, 15] [_, _, _] hl' rfl rfl ⟨rfl, rfl, rfl, trivial⟩ mB mB rfl mR mR ?_
    refine evl ?_
    repeat refine ⟨sd, ?_⟩
    refine callE_N [0, 1, 2, 3, 4, 5, 6, 7, 8, 9, 10, 11, 12] [_, _, _, _, _, _, _, _, _, _, _, _, _] [19] hcm rfl rfl ⟨rfl, rfl, rfl, rfl, rfl, rfl, rfl, rfl, rfl, rfl, rfl, rfl, rfl, rfl, trivial⟩ mB mB rfl mR mR ?_
    refine evl ?_
    repeat refine ⟨sd, ?_⟩
    refine k21 (cd rfl (fun h4 => ?_) (fun h4 => ?_))
    ·exact absurd h4 (by simp)
    ·refine wps_skip (k20 (sq fun _ k22 => ?_))
     by_cases hib : i < bl.length
     ·have hbi := blrow_at hib
      have hbi2 : decide ((i : Int) < (bl.length : Int)) = true := decide_eq_true (by omega)
      refine wps_keep [0, 1, 2, 7, 8, 9, 10, 11, 12, 13] mK ?_
      refine rg 0 ?_
      refine evx2 hbi hbi2 ?_
      repeat refine ⟨sd, ?_⟩
      refine k22 (cd rfl (fun h5 => ?_) (fun h5 => ?_))
      ·refine sq fun _ k23 => ?_
       refine wps_keep [0, 1, 2, 7, 8, 9, 10, 11, 13] mK ?_
       refine rgn 0 ?_
       repeat refine ⟨sd, ?_⟩
       refine callT_atNE [1, 2, 3, 4, 5, 6, 7, 8, 9, 10, 19, 12] [_, _, _, _, _, _, _, _, _, _, _, _] hsy2 rfl rfl ⟨rfl, rfl, rfl, rfl, rfl, rfl, rfl, rfl, rfl, rfl, rfl, rfl, trivial⟩ mB mB (fun _ => rfl) (fun g' hg' => ?_)
       have hvl := hvl g'
       refine fxl ?_
       refine evl ?_
       repeat refine ⟨sd, ?_⟩
       refine k23 (rgn 0 ?_)
       repeat refine ⟨sd, ?_⟩
       refine callT_at [0, 1, 2, 3, 4, 5, 6, 7, 8, 9, 20, 21, 12] [_, _, _, _, _, _, _, _, _, _, _, _, _] hvl rfl rfl ⟨rfl, rfl, rfl, rfl, rfl, rfl, rfl, rfl, rfl, rfl, rfl, rfl, rfl, trivial⟩ mB mB rfl mR mR ?_
       refine evl ?_
       repeat refine ⟨sd, ?_⟩
       refine k14 (k13 (rg 0 ?_))
       refine evx hwi ?_
       repeat refine ⟨sd, ?_⟩
       have hInv2 := hI0.sync hInv' hg'
       exact hKL _ _ (bts.length - (i + 1)) [(0, .u (.fz (bts.map brow) q)), (1, .u (.fz (bl.map blrow) q3)), (2, .u (.fz (sv.map svrow) q4)), (7, .p 8 0), (8, .p 1 0), (9, .p 0 0), (10, .p 13 0), (11, .h 16), (12, .u (.i .u64 ((ds ++ [(cl, r, s, ws)]).length : Int))), (13, .u (.i .i64 ((i + 1 : Nat) : Int)))] [.cells [.p 1 0, .u (.i .u64 ((ds ++ [(cl, r, s, ws)]).length : Int)), .u (.i .u64 0)], .cells [.p 2 0, .p 3 0, .p 12 0], .cells [.p 3 0], .cells [.p 8 0, .p 7 0, .u (.i .i64 0), .u (.i .i64 200), .u (.i .u64 0), .h 4, .h 5, .h 6], .map [], .map ((enc W').map sent), .map [], .cells [.p 8 0, .u (.i .i64 0), .u (.i .u64 0), .u (.i .i64 1)], .cells [.u (.i .i64 1000), .u (.i .i64 1000), .h 9, .h 10, .h 11], .map (b.v.map sent), .map (g'.map sent), .row 116 1 [], .cells [.p 8 0, .u (.i .i64 802), .u (.i .i64 8), .u (.i .i64 16), .u (.fz (b.sg.map segrow) none), .u (.fz (bs b.st) none), .u (.i .u64 (b.last : Int)), .u (.i .u64 (b.last : Int))], .cells [.u (.i .u64 ((ds.length + 1 : Nat) : Int)), .h 14, .h 15], .map (jk.map kent), .map (jt.map tent), .row 34 4 ((ds ++ [(cl, r, s, ws)]).map brow)] (entL hc0 [some 0, some 1, some 2, some 3, some 4, some 5, some 6, some 7, some 8, some 9, some 20, some 21, some 12, some 13, some 14, some 15, some 18] rfl rfl (by rw [hlen]; simp only [go_sem, reduceIte, Nat.reduceEqDiff, Nat.reduceAdd, Nat.reduceLT]) (by rw [hlen]; simp only [retSV, SV.mv, mvs, subL, List.map_nil, List.map_cons, SObj.mv, posOf, back, List.length_cons, List.length_nil, List.getElem?_cons_zero, List.getElem?_cons_succ, Option.map_some, Nat.reduceAdd, Nat.reduceLT, Nat.zero_add, Nat.lt_add_one, List.getD_cons_zero, List.getD_cons_succ, reduceIte, Nat.reduceEqDiff, Env.get, Env.put, and_true, true_and, implies_true, List.map_append, List.map_cons, List.map_nil, brow])) ⟨i + 1, ds ++ [(cl, r, s, ws)], (ds ++ [(cl, r, s, ws)]).length, W', m', l', _, g', b.last, ⟨_, jk, jt⟩, none, none, rfl, by omega, by omega, by omega, hds', hInv2, hJI', rfl, rfl⟩ (by omega)
      ·refine wps_skip (k14 (k13 ?_))
       refine wps_keep [0, 1, 2, 7, 8, 9, 10, 11, 12, 13] mK ?_
       refine rg 0 ?_
       refine evx hwi ?_
       repeat refine ⟨sd, ?_⟩
       exact hKL _ _ (bts.length - (i + 1)) _ [.cells [.p 1 0, .u (.i .u64 ((ds ++ [(cl, r, s, ws)]).length : Int)), .u (.i .u64 0)], .cells [.p 2 0, .p 3 0, .p 12 0], .cells [.p 3 0], .cells [.p 8 0, .p 7 0, .u (.i .i64 0), .u (.i .i64 200), .u (.i .u64 0), .h 4, .h 5, .h 6], .map [], .map ((enc W').map sent), .map [], .cells [.p 8 0, .u (.i .i64 0), .u (.i .u64 0), .u (.i .i64 1)], .cells [.u (.i .i64 1000), .u (.i .i64 1000), .h 9, .h 10, .h 11], .map (b.v.map sent), .map (g.map sent), .row 116 1 (b.P.map prow), .cells [.p 8 0, .u (.i .i64 802), .u (.i .i64 8), .u (.i .i64 16), .u (.fz (b.sg.map segrow) none), .u (.fz (bs b.st) none), .u (.i .u64 (b.last : Int)), .u (.i .u64 (sy : Int))], .cells [.u (.i .u64 ((ds.length + 1 : Nat) : Int)), .h 14, .h 15], .map (jk.map kent), .map (jt.map tent), .row 34 4 ((ds ++ [(cl, r, s, ws)]).map brow)] (entL hc0 [some 0, some 1, some 2, some 3, some 4, some 5, some 6, some 7, some 8, some 9, some 10, some 19, some 12, some 13, some 14, some 15, some 18] rfl rfl mB (by rw [hlen]; simp only [retSV, SV.mv, mvs, subL, List.map_nil, List.map_cons, SObj.mv, posOf, back, List.length_cons, List.length_nil, List.getElem?_cons_zero, List.getElem?_cons_succ, Option.map_some, Nat.reduceAdd, Nat.reduceLT, Nat.zero_add, Nat.lt_add_one, List.getD_cons_zero, List.getD_cons_succ, reduceIte, Nat.reduceEqDiff, Env.get, Env.put, and_true, true_and, implies_true, List.map_append, List.map_cons, List.map_nil, brow])) ⟨i + 1, ds ++ [(cl, r, s, ws)], u, W', m', l', b, g, sy, ⟨_, jk, jt⟩, none, none, rfl, by omega, by omega, by omega, hds', hInv', hJI', rfl, rfl⟩ (by omega)
     ·have hbi : (bl.map blrow).getD i [] = [] := getD_out (by rw [List.length_map]; exact hib)
      have hbi2 : decide ((i : Int) < (bl.length : Int)) = false := decide_eq_false (by omega)
      refine wps_keep [0, 1, 2, 7, 8, 9, 10, 11, 12, 13] mK ?_
      refine rg 0 ?_
      simp only [↓kOps_app, ↓evOps_nil, ↓evOps_cons, go_sem, Int.reduceAdd, Int.reduceBEq, Int.reduceEq, Int.reduceLE, Int.reduceLT, Int.reduceNe, Int.reduceSub, Int.reduceToNat, Nat.reduceAdd, Nat.reduceBEq, Nat.reduceEqDiff, Nat.reduceLT, Nat.reduceLeDiff, Nat.reduceMul, Nat.reduceSub, reduceCtorEq, reduceIte, hbi, hbi2, List.getD_nil]
      repeat refine ⟨sd, ?_⟩
      refine k22 (cd rfl (fun h5 => ?_) (fun h5 => ?_))
      ·exact absurd h5 (by simp)
      ·refine wps_skip (k14 (k13 ?_))
       refine wps_keep [0, 1, 2, 7, 8, 9, 10, 11, 12, 13] mK ?_
       refine rg 0 ?_
       refine evx hwi ?_
       repeat refine ⟨sd, ?_⟩
       exact hKL _ _ (bts.length - (i + 1)) _ [.cells [.p 1 0, .u (.i .u64 ((ds ++ [(cl, r, s, ws)]).length : Int)), .u (.i .u64 0)], .cells [.p 2 0, .p 3 0, .p 12 0], .cells [.p 3 0], .cells [.p 8 0, .p 7 0, .u (.i .i64 0), .u (.i .i64 200), .u (.i .u64 0), .h 4, .h 5, .h 6], .map [], .map ((enc W').map sent), .map [], .cells [.p 8 0, .u (.i .i64 0), .u (.i .u64 0), .u (.i .i64 1)], .cells [.u (.i .i64 1000), .u (.i .i64 1000), .h 9, .h 10, .h 11], .map (b.v.map sent), .map (g.map sent), .row 116 1 (b.P.map prow), .cells [.p 8 0, .u (.i .i64 802), .u (.i .i64 8), .u (.i .i64 16), .u (.fz (b.sg.map segrow) none), .u (.fz (bs b.st) none), .u (.i .u64 (b.last : Int)), .u (.i .u64 (sy : Int))], .cells [.u (.i .u64 ((ds.length + 1 : Nat) : Int)), .h 14, .h 15], .map (jk.map kent), .map (jt.map tent), .row 34 4 ((ds ++ [(cl, r, s, ws)]).map brow)] (entL hc0 [some 0, some 1, some 2, some 3, some 4, some 5, some 6, some 7, some 8, some 9, some 10, some 19, some 12, some 13, some 14, some 15, some 18] rfl rfl mB (by rw [hlen]; simp only [retSV, SV.mv, mvs, subL, List.map_nil, List.map_cons, SObj.mv, posOf, back, List.length_cons, List.length_nil, List.getElem?_cons_zero, List.getElem?_cons_succ, Option.map_some, Nat.reduceAdd, Nat.reduceLT, Nat.zero_add, Nat.lt_add_one, List.getD_cons_zero, List.getD_cons_succ, reduceIte, Nat.reduceEqDiff, Env.get, Env.put, and_true, true_and, implies_true, List.map_append, List.map_cons, List.map_nil, brow])) ⟨i + 1, ds ++ [(cl, r, s, ws)], u, W', m', l', b, g, sy, ⟨_, jk, jt⟩, none, none, rfl, by omega, by omega, by omega, hds', hInv', hJI', rfl, rfl⟩ (by omega)
  ·obtain ⟨P, r, W', m', l', hPe, hgOK, hP5, hPl, hur, hrd, hOp, hRun, hF⟩ := hI0.crash sv hInv (by omega) hsv60
   have hvOK := (hI0.fact hInv).2.1
   have hcr := crash_ok a.v g P sv q4 hgOK hP5 hPl (by omega)
   rw [← hPe] at hcr
   unfold dsk dskC at hcr
   have htkl : (ds.take r).length = r := by rw [List.length_take]; omega
   have hdl2 : ds.length ≤ 12 := by omega
   refine wps_exit ?_
   simp only [reduceIte, Nat.reduceEqDiff]
   refine k10 (k8 (sq fun _ k24 => ?_))
   refine wps_ent (e' := [(2, .u (.fz (sv.map svrow) q4)), (7, .p 8 0), (11, .u (.fz (ds.map brow) none)), (12, .u (.i .u64 (u : Int)))]) (entF 16 rfl mB rfl) ?_
   refine wps_ent (e' := [(2, .u (.fz (sv.map svrow) q4)), (7, .p 8 0), (11, .u (.fz (ds.map brow) none)), (12, .u (.i .u64 (u : Int)))]) (σ' := [.cells [.p 1 0, .u (.i .u64 (ds.length : Int)), .u (.i .u64 0)], .cells [.p 2 0, .p 3 0, .p 12 0], .cells [.p 3 0], .cells [.p 8 0, .p 7 0, .u (.i .i64 0), .u (.i .i64 200), .u (.i .u64 0), .h 4, .h 5, .h 6], .map [], .map ((enc W).map sent), .map [], .cells [.p 8 0, .u (.i .i64 0), .u (.i .u64 0), .u (.i .i64 1)], .cells [.u (.i .i64 1000), .u (.i .i64 1000), .h 9, .h 10, .h 11], .map (a.v.map sent), .map (g.map sent), .row 116 1 (a.P.map prow), .cells [.p 8 0, .u (.i .i64 802), .u (.i .i64 8), .u (.i .i64 16), .u (.fz (a.sg.map segrow) q1), .u (.fz (bs a.st) q2), .u (.i .u64 (a.last : Int)), .u (.i .u64 (sy : Int))]]) (entL hc0 [some 0, some 1, some 2, some 3, some 4, some 5, some 6, some 7, some 8, some 9, some 10, some 11, some 12] rfl rfl mB mB) ?_
   refine rgn 0 ?_
   repeat refine ⟨sd, ?_⟩
   refine callT_atNE [8, 9, 10, 11] [_, _, _, _] hcr rfl rfl ⟨rfl, rfl, rfl, rfl, trivial⟩ mB mB (fun _ => rfl) (fun v' hv' => ?_)
   obtain ⟨s0, s1, s2, F, s3, s4, s5⟩ := hOp v' hv'
   have ho := sopen_ok v' (crashG sv 0 g P) F _ (comsL 1 (ds.take r)) W' m' s0 s1 s2 s3 s4 rfl s5 hRun (by rw [comsL_len, htkl]; omega)
   simp only [opn_app] at ho
   unfold opnD opnN dsk dskC at ho
   refine fxl ?_
   refine evl ?_
   repeat refine ⟨sd, ?_⟩
   refine k24 (sq fun _ k25 => rgn 0 ?_)
   repeat refine ⟨sd, ?_⟩
   refine callT_atNE [8, 13, 10, 14] [_, _, _, _] ho rfl rfl ⟨rfl, rfl, rfl, rfl, trivial⟩ mB mB (fun _ => rfl) (fun g2 hg2 => ?_)
   generalize ((foundL F 8).take (takenN (foundL F 8))).map segOf = sg2
   generalize lastL ((foundL F 8).take (takenN (foundL F 8))) = la2
   generalize (freeU sg2 8 (v', [])).1 = v2
   have hvo := vopen_ok W' l' r (.fz (sg2.map segrow) none) (.fz [] (some 0)) la2 la2 v2 g2 [] hF.rd hF.len (by have := hF.ok; rwa [htkl] at this) (by omega)
   have hvl := vlast_ok W' (.fz (sg2.map segrow) none) (.fz [] (some 0)) la2 la2 v2 g2 [] r
   unfold sto at hvo
   unfold vwm at hvl
   simp only [List.map_nil] at hvo hvl
   refine fxl ?_
   refine evl ?_
   repeat refine ⟨sd, ?_⟩
   refine k25 (sq fun _ k26 => sq fun _ k27 => rgn 0 ?_)
   repeat refine ⟨sd, ?_⟩
   refine k27 (cd rfl (fun h6 => ?_) (fun h6 => ?_))
   ·exact absurd h6 (by simp)
   ·refine wps_skip (k26 (sq fun _ k28 => ?_))
    refine wps_keep [11, 12, 15] mK ?_
    refine rgn 0 ?_
    repeat refine ⟨sd, ?_⟩
    refine callT_atN [24, 20, 19, 16, 17, 18, 15, 8, 13, 22, 23, 21] [_, _, _, _, _, _, _, _, _, _, _, _] (τ := [_, _, _, _, _, _, _, _, _, _, _, _]) hvo rfl rfl ⟨rfl, rfl, rfl, rfl, rfl, rfl, rfl, rfl, rfl, rfl, rfl, rfl, trivial⟩ mB mB rfl ?_
    refine fxl ?_
    refine evl ?_
    repeat refine ⟨sd, ?_⟩
    refine k28 (sq fun _ k29 => sq fun _ k30 => ?_)
    have hd1 : decide ((r : Int) < (u : Int)) = false := decide_eq_false (by omega)
    have hd2 : decide ((ds.length : Int) < (r : Int)) = false := decide_eq_false (by omega)
    have hwd := wrapu_nat (n := ds.length) (by omega)
    refine rg 0 ?_
    refine evx3 hd1 hd2 hwd ?_
    repeat refine ⟨sd, ?_⟩
    refine callT_at [25, 24, 20, 19, 16, 17, 18, 15, 8, 13, 22, 23, 21] [_, _, _, _, _, _, _, _, _, _, _, _, _] hvl rfl rfl ⟨rfl, rfl, rfl, rfl, rfl, rfl, rfl, rfl, rfl, rfl, rfl, rfl, rfl, trivial⟩ mB mB rfl mR mR ?_
    refine evx3 hd1 hd2 hwd ?_
    repeat refine ⟨sd, ?_⟩
    refine callT_at [25, 24, 20, 19, 16, 17, 18, 15, 8, 13, 22, 23, 21] [_, _, _, _, _, _, _, _, _, _, _, _, _] hvl rfl rfl ⟨rfl, rfl, rfl, rfl, rfl, rfl, rfl, rfl, rfl, rfl, rfl, rfl, rfl, trivial⟩ mB mB rfl mR mR ?_
    refine evx3 hd1 hd2 hwd ?_
    repeat refine ⟨sd, ?_⟩
    refine k30 (cd rfl (fun h7 => ?_) (fun h7 => ?_))
    ·exact absurd h7 (by simp)
    ·refine wps_skip (k29 (sq fun _ k31 => sq fun _ k32 => ?_))
     refine wps_keep [11, 17] mK ?_
     refine rgn 0 ?_
     repeat refine ⟨sd, ?_⟩
     refine k32 (bk fun _ k33 => ?_)
     have hvl2 := vlast_ok W' (.fz (sg2.map segrow) none) (.fz [] (some 0)) la2 la2 v2 g2 [] r
     unfold vwm at hvl2
     simp only [List.map_nil] at hvl2
     refine wps_loop (fun n e σ => ∃ (t : Nat), n = r + 1 - t ∧ t ≤ r + 1 ∧ e = [(11, .u (.fz (ds.map brow) none)), (17, .p 0 0), (19, .u (.i .u64 (t : Int)))] ∧ σ = [.cells [.p 1 0, .u (.i .u64 (r : Int)), .u (.i .u64 0)], .cells [.p 2 0, .p 3 0, .p 12 0], .cells [.p 3 0], .cells [.p 8 0, .p 7 0, .u (.i .i64 0), .u (.i .i64 200), .u (.i .u64 0), .h 4, .h 5, .h 6], .map [], .map ((enc W').map sent), .map [], .cells [.p 8 0, .u (.i .i64 0), .u (.i .u64 0), .u (.i .i64 1)], .cells [.u (.i .i64 1000), .u (.i .i64 1000), .h 9, .h 10, .h 11], .map (v2.map sent), .map (g2.map sent), .row 116 1 [], .cells [.p 8 0, .u (.i .i64 802), .u (.i .i64 8), .u (.i .i64 16), .u (.fz (sg2.map segrow) none), .u (.fz [] (some 0)), .u (.i .u64 (la2 : Int)), .u (.i .u64 (la2 : Int))]])
      (e0 := [(11, .u (.fz (ds.map brow) none)), (17, .p 0 0), (19, .u (.i .u64 0))]) (σ0 := [.cells [.p 1 0, .u (.i .u64 (r : Int)), .u (.i .u64 0)], .cells [.p 2 0, .p 3 0, .p 12 0], .cells [.p 3 0], .cells [.p 8 0, .p 7 0, .u (.i .i64 0), .u (.i .i64 200), .u (.i .u64 0), .h 4, .h 5, .h 6], .map [], .map ((enc W').map sent), .map [], .cells [.p 8 0, .u (.i .i64 0), .u (.i .u64 0), .u (.i .i64 1)], .cells [.u (.i .i64 1000), .u (.i .i64 1000), .h 9, .h 10, .h 11], .map (v2.map sent), .map (g2.map sent), .row 116 1 [], .cells [.p 8 0, .u (.i .i64 802), .u (.i .i64 8), .u (.i .i64 16), .u (.fz (sg2.map segrow) none), .u (.fz [] (some 0)), .u (.i .u64 (la2 : Int)), .u (.i .u64 (la2 : Int))]]) (entL hc0 [some 25, some 24, some 20, some 19, some 16, some 17, some 18, some 15, some 8, some 13, some 22, some 23, some 21] rfl rfl mB mB) ⟨0, rfl, Nat.zero_le _, rfl, rfl⟩ fun KN n3 e3 σ3 hI3 hKN => ?_
     obtain ⟨t, rfl, ht, rfl, rfl⟩ := hI3
     refine sq fun _ k34 => sq fun _ k35 => rgn 0 ?_
     repeat refine ⟨sd, ?_⟩
     refine callT_at [0, 1, 2, 3, 4, 5, 6, 7, 8, 9, 10, 11, 12] [_, _, _, _, _, _, _, _, _, _, _, _, _] hvl2 rfl rfl ⟨rfl, rfl, rfl, rfl, rfl, rfl, rfl, rfl, rfl, rfl, rfl, rfl, rfl, trivial⟩ mB mB rfl mR mR ?_
     refine evl ?_
     repeat refine ⟨sd, ?_⟩
     refine k35 (cd rfl (fun h8 => ?_) (fun h8 => ?_))
     ·have htl : t ≤ r := by simp at h8; omega
      have hrs := refscan_ok (ds.take t) none (by simp; omega) (fun b hb => hds b (List.mem_of_mem_take hb))
      obtain ⟨n0, fst, hA, hS⟩ := hF.scan t (by omega)
      have htt : (ds.take r).take t = ds.take t := by rw [List.take_take, Nat.min_eq_left htl]
      rw [htt] at hS
      have hsl2 := scanR_len (ds.take t) (by simp; omega) (fun b hb => hds b (List.mem_of_mem_take hb))
      have hsc := vscan_ok W' l' (.fz (sg2.map segrow) none) (.fz [] (some 0)) la2 la2 v2 g2 [] r t n0 fst _ hF.rd hF.len (by omega) htl hA hS hsl2
      have hsm := same_ok (scanR (ds.take t)) none none (by omega)
      have hside : 0 ≤ (t : Int) ∧ (t : Int) ≤ (ds.length : Int) ∧ ∀ y ∈ ds.map brow, y.length = 4 := ⟨by omega, by omega, brow_ok1 ds⟩
      rw [List.map_take] at hrs
      unfold vwm at hsc
      simp only [List.map_nil] at hsc
      have hwn : IntKind.u64.wrap ((t : Int) + 1) = ((t + 1 : Nat) : Int) := by rw [wrapu64 (by omega) (by omega)]; omega
      refine wps_skip (k34 (sq fun _ k36 => bk fun _ k37 => sq fun _ k38 => rgn 0 ?_))
      repeat refine ⟨sd, ?_⟩
      refine callT_at [] [] hall rfl rfl trivial mB mB rfl mR mR ?_
      refine evl ?_
      repeat refine ⟨sd, ?_⟩
      refine callT_at [0, 1, 2, 3, 4, 5, 6, 7, 8, 9, 10, 11, 12] [_, _, _, _, _, _, _, _, _, _, _, _, _] hsc rfl rfl ⟨rfl, rfl, rfl, rfl, rfl, rfl, rfl, rfl, rfl, rfl, rfl, rfl, rfl, trivial⟩ mB mB rfl mR mR ?_
      refine evl ?_
      repeat refine ⟨sd, ?_⟩
      refine k38 (sq fun _ k39 => dr 0 [0, 1, 3, 7, 7, 7, 55, 7, 247, 511, 1023, 2047] mixed ?_)
      refine evl ?_
      repeat refine ⟨sd, ?_⟩
      refine callG_at [] [] (fun _ => trivial) en16 hall rfl rfl trivial mB mB rfl mR mR ?_
      refine evl ?_
      repeat refine ⟨sd, ?_⟩
      refine callG_at [] [] (fun _ => trivial) en18 hrs rfl rfl trivial mB mB rfl mR mR ?_
      refine evl ?_
      repeat refine ⟨sd, ?_⟩
      refine callG_at [] [] (fun _ => trivial) en17 hsm rfl rfl trivial mB mB rfl mR mR ?_
      refine evl ?_
      repeat refine ⟨sd, ?_⟩
      refine k39 (cd rfl (fun h9 => ?_) (fun h9 => ?_))
      ·exact absurd h9 (by simp)
      ·refine wps_skip (k37 (k36 ?_))
       refine wps_keep [11, 17, 19] mK ?_
       refine rg 0 ?_
       refine evx hwn ?_
       repeat refine ⟨sd, ?_⟩
       exact hKN _ _ (r + 1 - (t + 1)) _ _ (entL hc0 [some 0, some 1, some 2, some 3, some 4, some 5, some 6, some 7, some 8, some 9, some 10, some 11, some 12] rfl rfl mB mB) ⟨t + 1, rfl, by omega, rfl, rfl⟩ (by omega)
     ·refine wps_exit ?_
      simp only [reduceIte, Nat.reduceEqDiff]
      refine k33 (k31 (sq fun _ k40 => rgn 0 ?_))
      repeat refine ⟨sd, ?_⟩
      refine k40 (wps_ret ?_)
      refine retL [] mA mO rfl rfl ?_
      exact mT

/-! ### the order of the keys -/
theorem blt_pre : ∀ (p a b : List UInt8), Op.bytesLess (p ++ a) (p ++ b) = Op.bytesLess a b
  | [], a, b => rfl
  | x :: p, a, b => by
    rw [List.cons_append, List.cons_append, Op.bytesLess, blt_pre p a b]
    simp
theorem blt_cons {x y : UInt8} (h : x < y) (a b : List UInt8) : Op.bytesLess (x :: a) (y :: b) = true := by
  simp [Op.bytesLess, h]
theorem blt_same (x : UInt8) (a b : List UInt8) : Op.bytesLess (x :: a) (x :: b) = Op.bytesLess a b := by
  simp [Op.bytesLess]
theorem blt_nil (a : List UInt8) : Op.bytesLess a [] = false := by cases a <;> rfl
def beN : Nat → Nat → List UInt8
  | 0, _ => []
  | n + 1, v => UInt8.ofNat (v / 256 ^ n) :: beN n v
theorem be8_beN (v : Nat) : be8 v = beN 8 v := by simp [be8, beN]
theorem u8_lt {p q : Nat} (h : p % 256 < q % 256) : UInt8.ofNat p < UInt8.ofNat q := by
  rw [UInt8.lt_iff_toNat_lt]
  simpa using h
theorem u8_eq {p q : Nat} (h : p % 256 = q % 256) : UInt8.ofNat p = UInt8.ofNat q := by
  apply UInt8.toNat_inj.1
  simpa using h
theorem beN_lt : ∀ (n a b : Nat), a % 256 ^ n < b % 256 ^ n → Op.bytesLess (beN n a) (beN n b) = true
  | 0, a, b, h => by simp [Nat.mod_one] at h
  | n + 1, a, b, h => by
    have hp : 0 < 256 ^ n := Nat.pow_pos (by decide)
    have ha := Nat.mod_pow_succ (x := a) (b := 256) (k := n)
    have hb := Nat.mod_pow_succ (x := b) (b := 256) (k := n)
    rw [ha, hb] at h
    have ha2 := Nat.mod_lt a hp
    have hb2 := Nat.mod_lt b hp
    simp only [beN]
    rcases Nat.lt_trichotomy (a / 256 ^ n % 256) (b / 256 ^ n % 256) with hx | hx | hx
    · exact blt_cons (u8_lt hx) _ _
    · rw [u8_eq hx, blt_same]
      rw [hx] at h
      exact beN_lt n a b (by omega)
    · exfalso
      have := Nat.mul_le_mul_left (256 ^ n) hx
      rw [Nat.succ_eq_add_one, Nat.mul_add, Nat.mul_one] at this
      omega
theorem be8_lt {a b : Nat} (h : a < b) (hb : b < 18446744073709551616) : Op.bytesLess (be8 a) (be8 b) = true := by
  rw [be8_beN, be8_beN]
  refine beN_lt 8 a b ?_
  rw [Nat.mod_eq_of_lt (by have : (256 : Nat) ^ 8 = 18446744073709551616 := by decide
                           omega), Nat.mod_eq_of_lt (by have : (256 : Nat) ^ 8 = 18446744073709551616 := by decide
                                                        omega)]
  exact h
theorem u8_pos {x : UInt8} (h : x ≠ 0) : 0 < x := by
  rw [UInt8.lt_iff_toNat_lt]
  have : x.toNat ≠ 0 := fun h2 => h (UInt8.toNat_inj.1 h2)
  simp; omega
theorem escq_cons (b : UInt8) (k : List UInt8) : escS (b :: k) = esc1 b ++ escS k := by simp [escS]
theorem esc1_z : esc1 0 = [0, 255] := rfl
theorem esc1_n {b : UInt8} (h : b ≠ 0) : esc1 b = [b] := if_neg h
/-- a key's code rises with the key, whatever stands behind -/
theorem esc_lt : ∀ {k k' : List UInt8}, Op.bytesLess k k' = true → ∀ u u' : List UInt8, Op.bytesLess (escS k ++ 0 :: 1 :: u) (escS k' ++ 0 :: 1 :: u') = true
  | _, [], h, u, u' => by rw [blt_nil] at h; cases h
  | [], y :: k', _, u, u' => by
    rw [escq_cons]
    by_cases hy : y = 0
    · subst hy
      rw [esc1_z]
      simp only [escS, List.flatMap_nil, List.nil_append, List.cons_append]
      rw [blt_same]
      exact blt_cons (by decide) _ _
    · rw [esc1_n hy]
      exact blt_cons (u8_pos hy) _ _
  | x :: k, y :: k', h, u, u' => by
    rw [escq_cons, escq_cons]
    by_cases hxy : x = y
    · subst hxy
      rw [blt_same] at h
      rw [List.append_assoc, List.append_assoc, blt_pre]
      exact esc_lt h u u'
    · have hlt : x < y := by
        simp only [Op.bytesLess, Bool.or_eq_true, Bool.and_eq_true, decide_eq_true_eq, beq_iff_eq] at h
        rcases h with h | ⟨h, _⟩
        · exact h
        · exact absurd h hxy
      have hy : y ≠ 0 := by
        rintro rfl
        exact absurd hlt (by rw [UInt8.lt_iff_toNat_lt]; simp)
      rw [esc1_n hy]
      by_cases hx : x = 0
      · subst hx
        rw [esc1_z]
        exact blt_cons hlt _ _
      · rw [esc1_n hx]
        exact blt_cons hlt _ _
theorem vkey_eq (k : List UInt8) (t : Nat) : vkey k t = 100 :: (escS k ++ 0 :: 1 :: be8 (18446744073709551615 - t)) := by
  simp [vkey, keyS]
theorem vkey_lt1 {k k' : List UInt8} (h : Op.bytesLess k k' = true) (t t' : Nat) (u u' : List UInt8) : Op.bytesLess (vkey k t ++ u) (vkey k' t' ++ u') = true := by
  rw [vkey_eq, vkey_eq, List.cons_append, List.cons_append, blt_same, List.append_assoc, List.append_assoc]
  exact esc_lt h _ _
theorem vkey_lt2 (k : List UInt8) {t t' : Nat} (h : t' < t) (ht : t < 18446744073709551616) : Op.bytesLess (vkey k t) (vkey k t') = true := by
  rw [vkey_eq, vkey_eq, blt_same, blt_pre, blt_same, blt_same]
  exact be8_lt (by omega) (by omega)
/-- the keys in their order: key rising, timestamp falling -/
def kb (k : List UInt8) (t : Nat) (k' : List UInt8) (t' : Nat) : Bool := Op.bytesLess k k' || (k == k' && decide (t' < t))
theorem vkey_lt {k k' : List UInt8} {t t' : Nat} (ht : t < 18446744073709551616) (ht' : t' < 18446744073709551616) : Op.bytesLess (vkey k t) (vkey k' t') = kb k t k' t' := by
  unfold kb
  cases h : Op.bytesLess k k' with
  | true =>
    have := vkey_lt1 h t t' [] []
    rw [List.append_nil, List.append_nil] at this
    rw [this]; rfl
  | false =>
    cases h2 : Op.bytesLess k' k with
    | true =>
      have := vkey_lt1 h2 t' t [] []
      rw [List.append_nil, List.append_nil] at this
      rw [blt_asymm this]
      have hne : (k == k') = false := by
        apply beq_eq_false_iff_ne.2
        rintro rfl
        rw [blt_irrefl] at h2; cases h2
      rw [hne]; rfl
    | false =>
      have hk := blt_conn h h2
      subst hk
      simp only [beq_self_eq_true, Bool.true_and, Bool.false_or]
      rcases Nat.lt_trichotomy t' t with hx | hx | hx
      · rw [vkey_lt2 k hx ht, decide_eq_true hx]
      · subst hx
        rw [blt_irrefl, decide_eq_false (Nat.lt_irrefl _)]
      · rw [blt_asymm (vkey_lt2 k hx ht'), decide_eq_false (by omega)]
theorem vkey_109 (k : List UInt8) (t : Nat) (r : List UInt8) : Op.bytesLess (vkey k t) (109 :: r) = true := by
  rw [vkey_eq]; exact blt_cons (by decide) _ _
theorem blt_snoc : ∀ (a b : List UInt8), Op.bytesLess a (b ++ [0]) = !Op.bytesLess b a
  | [], [] => rfl
  | [], y :: b => rfl
  | x :: a, [] => by
    rw [List.nil_append]
    show Op.bytesLess (x :: a) [0] = false
    simp only [Op.bytesLess, blt_nil, Bool.and_false, Bool.or_false]
    exact decide_eq_false (by rw [UInt8.lt_iff_toNat_lt]; simp)
  | x :: a, y :: b => by
    rw [List.cons_append]
    simp only [Op.bytesLess]
    rw [blt_snoc a b]
    by_cases h1 : x < y
    · have h2 : ¬ y < x := fun h => UInt8.lt_irrefl x (UInt8.lt_trans h1 h)
      have h3 : (y == x) = false := beq_eq_false_iff_ne.2 (by rintro rfl; exact UInt8.lt_irrefl _ h1)
      simp [h1, h2, h3]
    · by_cases h2 : y < x
      · have h3 : (x == y) = false := beq_eq_false_iff_ne.2 (by rintro rfl; exact UInt8.lt_irrefl _ h2)
        simp [h1, h2, h3]
      · have h4 : x = y := by
          rw [UInt8.lt_iff_toNat_lt] at h1 h2
          exact UInt8.toNat_inj.1 (by omega)
        subst h4
        simp [UInt8.lt_irrefl]
theorem vkey_inj {k k' : List UInt8} {t t' : Nat} (ht : t < 18446744073709551616) (ht' : t' < 18446744073709551616) (h : vkey k t = vkey k' t') : k = k' ∧ t = t' := by
  have h1 := vkey_lt (k := k) (k' := k') ht ht'
  have h2 := vkey_lt (k := k') (k' := k) ht' ht
  rw [h, blt_irrefl] at h1
  rw [h, blt_irrefl] at h2
  unfold kb at h1 h2
  have h1' := h1.symm
  have h2' := h2.symm
  rw [Bool.or_eq_false_iff] at h1' h2'
  have hk := blt_conn h1'.1 h2'.1
  subst hk
  simp at h1' h2'
  exact ⟨rfl, by omega⟩
end Go.Proofs.YtefipnajpabfgaaGreatDoor
