/- Part 13 of the proof: what functions of the program do, and plain facts on what they compute. -/
import Derived.Test.YtefipnajpabfgaaGreatDoorP12
set_option linter.all false
set_option maxRecDepth 40000
set_option maxHeartbeats 16000000
set_option linter.unusedSimpArgs false
set_option linter.unusedVariables false
namespace Go.Proofs.YtefipnajpabfgaaGreatDoor
open Go.Nm

/-! ### a log's state -/
structure LogS where
 sg : List Seg
 st : List UInt8
 last : Nat
 v : Sec
 P : List Pend
inductive LApp (body : List UInt8) : LogS → LogS → Prop
 | a {sg : List Seg} {s : Seg} {st : List UInt8} {last M : Nat} {v : Sec} {P : List Pend} (hsg : sg.length ≤ 100) (hs : s.1 < 8) (hc : s.2.2 ≤ 1000000) (hst : st ≠ []) (hlast : last ≤ 1000000) (hbd : body.length ≤ 8000)
   (hR : (recS (last + 1) titleS).length + (recS (last + 1) body).length ≤ 8192) (hfit : st.length + (recS (last + 1) body).length ≤ 8192) (hM : M = ((st ++ recS (last + 1) body).length + 511) / 512) (hv : LogSec v) (hP : P.length ≤ 10000) :
   LApp body ⟨sg ++ [s], st, last, v, P⟩ ⟨sg ++ [(s.1, s.2.1, s.2.2 + 1)], st ++ recS (last + 1) body, last + 1, applyW v (segW s.1 (st ++ recS (last + 1) body) (st.length / 512) (M - st.length / 512)), P ++ (segW s.1 (st ++ recS (last + 1) body) (st.length / 512) (M - st.length / 512)).map wrt⟩
 | b {sg : List Seg} {n : Nat} {st : List UInt8} {last M : Nat} {v : Sec} {P : List Pend} (hsg : sg.length ≤ 100) (hn : n < 8) (hu : ∀ j, j < n → usedB j sg = true) (hun : usedB n sg = false) (hlast : last ≤ 1000000) (hbd : body.length ≤ 8000) (hstl : st.length ≤ 8192)
   (hR : (recS (last + 1) titleS).length + (recS (last + 1) body).length ≤ 8192) (hfit : st = [] ∨ 8192 < st.length + (recS (last + 1) body).length) (hM : M = ((recS (last + 1) titleS ++ recS (last + 1) body).length + 511) / 512) (hv : LogSec v) (hP : P.length ≤ 10000) :
   LApp body ⟨sg, st, last, v, P⟩ ⟨sg ++ [(n, last + 1, 1)], recS (last + 1) titleS ++ recS (last + 1) body, last + 1, applyW v (segW n (recS (last + 1) titleS ++ recS (last + 1) body) 0 M), P ++ (segW n (recS (last + 1) titleS ++ recS (last + 1) body) 0 M).map wrt⟩
theorem append_ok {body : List UInt8} {a b : LogS} (h : LApp body a b) (q1 q2 : Option Nat) (synced : Nat) (g : Sec) : CallT Tryz.prog 62 [.p 0 0, .u (.s body)] (wlg (.fz (a.sg.map segrow) q1) (.fz (bs a.st) q2) a.last synced a.v g a.P)
  fun r σ => r = .tup [.u (.i .u64 (b.last : Int)), .u (.i .i64 0)] ∧ σ = wlgN (.fz (b.sg.map segrow) none) (.fz (bs b.st) none) b.last synced b.v g b.P := by
 cases h with
 | a hsg hs hc hst hlast hbd hR hfit hM hv hP => exact appendA_ok _ _ q1 q2 _ _ _ synced _ _ g _ hsg hs hc hst hlast hbd hR hfit hM hv hP
 | b hsg hn hu hun hlast hbd hstl hR hfit hM hv hP => exact appendB_ok _ _ q1 q2 _ _ _ synced _ _ g _ hsg hn hu hun hlast hbd hstl hR hfit hM hv hP

/-- the store, its log's state by itself -/
def stoL (W : PgM) (a : LogS) (q1 q2 : Option Nat) (synced : Nat) (g : Sec) : List SObj := sto W (.fz (a.sg.map segrow) q1) (.fz (bs a.st) q2) a.last synced a.v g a.P
/-- behind a call that has appended -/
def stoN (W : PgM) (a : LogS) (synced : Nat) (g : Sec) : List SObj := [.cells [.p 1 0, .p 2 0, .p 11 0], .cells [.p 2 0], .cells [.p 7 0, .p 6 0, .u (.i .i64 0), .u (.i .i64 200), .u (.i .u64 0), .h 3, .h 4, .h 5], .map [], .map ((enc W).map sent), .map [], .cells [.p 7 0, .u (.i .i64 0), .u (.i .u64 0), .u (.i .i64 1)], .cells [.u (.i .i64 1000), .u (.i .i64 1000), .h 8, .h 9, .h 12], .map (a.v.map sent), .map (g.map sent), .dead, .cells [.p 7 0, .u (.i .i64 802), .u (.i .i64 8), .u (.i .i64 16), .u (.fz (a.sg.map segrow) none), .u (.fz (bs a.st) none), .u (.i .u64 (a.last : Int)), .u (.i .u64 (synced : Int))]] ++ [.row 116 1 (a.P.map prow)]

theorem apply_ok (W W' : PgM) (m m' : Nat) (cs : List Cel) (q q1 q2 : Option Nat) (a b : LogS) (synced : Nat) (g : Sec) (hC : Cnt W m) (hm : m ≤ 64) (hc1 : cs.length ≤ 9) (hc2 : ∀ c ∈ cs, c.1.length ≤ 240 ∧ c.1.length + c.2.length ≤ 480) (hL : LApp (showS cs) a b) (h : Puts W m cs W' m') : CallT Tryz.prog 36 [.p 0 0, .u (.fz (cs.map chrow) q)] (stoL W a q1 q2 synced g)
  fun r σ => r = .tup [.u (.i .u64 (b.last : Int)), .u (.i .i64 0)] ∧ σ = stoN W' b synced g := by
 have hmy := smay_ok W (.fz (a.sg.map segrow) q1) (.fz (bs a.st) q2) a.last synced a.v g a.P m cs q hC hm hc1 hc2
 have hsh := show_ok cs q (by omega) (fun c hc => (hc2 c hc).2)
 have hap := append_ok hL q1 q2 synced g
 have hdo := sdo_ok W W' m m' cs q (.fz (b.sg.map segrow) none) (.fz (bs b.st) none) b.last synced b.v g b.P h (by omega)
 unfold stoL stoN
 unfold sto at *
 unfold wlg wlgN logC dskC at hap
 simp only [List.cons_append, List.nil_append] at hap
 refine cof 32 [.tmp 4, .tmp 5] Tryz.func36 Tryz.ntmps36 fun c hnt hc0 => ?_
 refine sq fun _ k1 => rgn 0 ?_
 repeat refine ⟨sd, ?_⟩
 refine k1 (sq fun _ k2 => sq fun _ k3 => rgn 0 ?_)
 repeat refine ⟨sd, ?_⟩
 refine callT_at [0, 1, 2, 3, 4, 5, 6, 7, 8, 9, 10, 11] [_, _, _, _, _, _, _, _, _, _, _, _] hmy rfl rfl ⟨rfl, rfl, rfl, rfl, rfl, rfl, rfl, rfl, rfl, rfl, rfl, rfl, trivial⟩ mB mB rfl mR mR ?_
 refine evl ?_
 repeat refine ⟨sd, ?_⟩
 refine k3 (sq fun _ k4 => rgn 0 ?_)
 repeat refine ⟨sd, ?_⟩
 refine k4 (cd rfl (fun h1 => ?_) (fun h1 => ?_))
 ·exact absurd h1 (by simp)
 ·refine wps_skip (k2 (sq fun _ k5 => dr 1 [0, 1, 3, 7, 0, 16, 63, 127, 255, 255, 511, 2047] mixed ?_))
  refine evl ?_
  repeat refine ⟨sd, ?_⟩
  refine callE_at [] [] hsh rfl rfl trivial mB mB rfl mR mR ?_
  refine evl ?_
  repeat refine ⟨sd, ?_⟩
  refine callE_N [11, 7, 8, 9, 10] [_, _, _, _, _] [12] hap rfl rfl ⟨rfl, rfl, rfl, rfl, rfl, rfl, trivial⟩ mB mB rfl mR mR ?_
  refine evl ?_
  repeat refine ⟨sd, ?_⟩
  refine k5 (sq fun _ k6 => sq fun _ k7 => rgn 0 ?_)
  repeat refine ⟨sd, ?_⟩
  refine k7 (cd rfl (fun h2 => ?_) (fun h2 => ?_))
  ·exact absurd h2 (by simp)
  ·refine wps_skip (k6 (sq fun _ k8 => rgn 0 ?_))
   repeat refine ⟨sd, ?_⟩
   refine callT_at [0, 1, 2, 3, 4, 5, 6, 7, 8, 9, 12, 11] [_, _, _, _, _, _, _, _, _, _, _, _] hdo rfl rfl ⟨rfl, rfl, rfl, rfl, rfl, rfl, rfl, rfl, rfl, rfl, rfl, rfl, trivial⟩ mB mB rfl mR mR ?_
   refine evl ?_
   repeat refine ⟨sd, ?_⟩
   refine k8 (sq fun _ k9 => rgn 0 ?_)
   repeat refine ⟨sd, ?_⟩
   refine k9 (wps_ret ?_)
   refine retL [some 0, some 1, some 2, some 3, some 4, some 5, some 6, some 7, some 8, some 9, some 10, some 11, some 12] mA mO rfl rfl ?_
   exact mU

/-! ### a meta page, a pager where nothing was committed -/
theorem tells_ok (v g : Sec) (P : List Pend) (at_ : Nat) (h : sget at_ v = none) : CallT Tryz.prog 103 [.p 0 0, .u (.i .i64 (at_ : Int))] (dsk v g P)
  fun r σ => r = .tup [.agg [.u (.i .u64 0), .u (.s [])], .u (.b false)] ∧ σ = dsk v g P := by
 have hd := dread_none v g P at_ h
 have hg := rget_short [] (some 0) (by simp)
 rw [bs_nil] at hg
 unfold dsk dskC at *
 refine cof 40 [.cell 4 127, .tmp 5] Tryz.func103 Tryz.ntmps103 fun c hnt hc0 => ?_
 refine sq fun _ k1 => rgn 1 ?_
 repeat refine ⟨sd, ?_⟩
 refine k1 (sq fun _ k2 => rgn 0 ?_)
 repeat refine ⟨sd, ?_⟩
 refine callT_at [0, 1, 2, 3] [_, _, _, _] hd rfl rfl ⟨rfl, rfl, rfl, rfl, trivial⟩ mB mB rfl mR mR ?_
 refine evl ?_
 repeat refine ⟨sd, ?_⟩
 refine k2 (sq fun _ k3 => rgn 1 ?_)
 repeat refine ⟨sd, ?_⟩
 refine callT_at [] [] hg rfl rfl trivial mB mB rfl mR mR ?_
 refine evl ?_
 repeat refine ⟨sd, ?_⟩
 refine k3 (sq fun _ k4 => dr 0 [0, 0, 2, 6, 14, 30, 62, 126, 126, 382, 1022, 2046, 4094, 8190, 16382, 32766, 65534, 8191, 262143] mixed ?_)
 refine evl ?_
 repeat refine ⟨sd, ?_⟩
 refine k4 (wps_ret ?_)
 refine retL [some 0, some 1, some 2, some 3] mA mO rfl rfl ?_
 exact mT

def metaC (d : Nat) : SObj := .cells [.p d 0, .u (.i .i64 0), .u (.i .u64 0), .u (.i .i64 1)]
theorem metaopen_ok (v g : Sec) (P : List Pend) (h0 : sget 0 v = none) (h1 : sget 1 v = none) : CallT Tryz.prog 66 [.p 0 0, .u (.i .i64 0)] (dsk v g P)
  fun r σ => r = .tup [.p 4 0, .u (.s []), .u (.i .i64 121)] ∧ σ = dsk v g P ++ [metaC 0] := by
 have ht0 := tells_ok v g P 0 h0
 have ht1 := tells_ok v g P 1 h1
 rw [show ((0 : Nat) : Int) = 0 from rfl] at ht0
 rw [show ((1 : Nat) : Int) = 1 from rfl] at ht1
 unfold dsk dskC metaC at *
 refine cof 63 [.tmp 4, .tmp 5, .tmp 6] Tryz.func66 Tryz.ntmps66 fun c hnt hc0 => ?_
 refine sq fun _ k1 => rgn 0 ?_
 repeat refine ⟨sd, ?_⟩
 refine k1 (sq fun _ k2 => sq fun _ k3 => rgn 0 ?_)
 repeat refine ⟨sd, ?_⟩
 refine k3 (cd rfl (fun h1 => ?_) (fun h1 => ?_))
 ·exact absurd h1 (by simp)
 ·refine wps_skip (k2 (sq fun _ k4 => rgn 1 ?_))
  repeat refine ⟨sd, ?_⟩
  refine k4 (sq fun _ k5 => ?_)
  refine wps_keep [0, 1, 7] mK ?_
  refine rgn 0 ?_
  repeat refine ⟨sd, ?_⟩
  refine k5 (sq fun _ k6 => sq fun _ k7 => rgn 0 ?_)
  repeat refine ⟨sd, ?_⟩
  refine k7 (bk fun _ k8 => wps_loopU ?_)
  refine wpl_round fun K9 hK9 => sq fun _ k10 => rgn 0 ?_
  repeat refine ⟨sd, ?_⟩
  refine k10 (sq fun _ k11 => cd rfl (fun h2 => ?_) (fun h2 => ?_))
  ·refine wps_skip (k11 (sq fun _ k12 => bk fun _ k13 => sq fun _ k14 => rgn 0 ?_))
   repeat refine ⟨sd, ?_⟩
   refine k14 (sq fun _ k15 => rgn 1 ?_)
   repeat refine ⟨sd, ?_⟩
   refine callT_at [0, 1, 2, 3] [_, _, _, _] ht0 rfl rfl ⟨rfl, rfl, rfl, rfl, trivial⟩ mB mB rfl mR mR ?_
   refine evl ?_
   repeat refine ⟨sd, ?_⟩
   refine k15 (sq fun _ k16 => ?_)
   refine wps_keep [0, 1, 7, 8, 9, 10, 11, 22] mK ?_
   refine dr 0 [0, 1, 3, 7, 3, 19, 51, 115, 255, 511] mixed ?_
   refine evl ?_
   repeat refine ⟨sd, ?_⟩
   refine k16 (cd rfl (fun h3 => ?_) (fun h3 => ?_))
   ·exact absurd h3 (by simp)
   ·refine wps_skip (k13 (k12 ?_))
    refine wps_keep [0, 1, 7, 8, 22] mK ?_
    refine rgn 0 ?_
    repeat refine ⟨sd, ?_⟩
    refine hK9 _ _ ?_
    refine wpl_round fun K17 hK17 => sq fun _ k18 => rgn 0 ?_
    repeat refine ⟨sd, ?_⟩
    refine k18 (sq fun _ k19 => cd rfl (fun h2 => ?_) (fun h2 => ?_))
    ·refine wps_skip (k19 (sq fun _ k20 => bk fun _ k21 => sq fun _ k22 => rgn 0 ?_))
     repeat refine ⟨sd, ?_⟩
     refine k22 (sq fun _ k23 => rgn 1 ?_)
     repeat refine ⟨sd, ?_⟩
     refine callT_at [0, 1, 2, 3] [_, _, _, _] ht1 rfl rfl ⟨rfl, rfl, rfl, rfl, trivial⟩ mB mB rfl mR mR ?_
     refine evl ?_
     repeat refine ⟨sd, ?_⟩
     refine k23 (sq fun _ k24 => ?_)
     refine wps_keep [0, 1, 7, 8, 9, 10, 11, 22] mK ?_
     refine dr 0 [0, 1, 3, 7, 3, 19, 51, 115, 255, 511] mixed ?_
     refine evl ?_
     repeat refine ⟨sd, ?_⟩
     refine k24 (cd rfl (fun h3 => ?_) (fun h3 => ?_))
     ·exact absurd h3 (by simp)
     ·refine wps_skip (k21 (k20 ?_))
      refine wps_keep [0, 1, 7, 8, 22] mK ?_
      refine rgn 0 ?_
      repeat refine ⟨sd, ?_⟩
      refine hK17 _ _ ?_
      refine wpl_round fun K25 hK25 => sq fun _ k26 => rgn 0 ?_
      repeat refine ⟨sd, ?_⟩
      refine k26 (sq fun _ k27 => cd rfl (fun h2 => ?_) (fun h2 => ?_))
      ·exact absurd h2 (by simp)
      ·refine wps_exit ?_
       simp only [reduceIte, Nat.reduceEqDiff]
       refine k8 (k6 (sq fun _ k28 => sq fun _ k29 => rgn 0 ?_))
       repeat refine ⟨sd, ?_⟩
       refine k29 (cd rfl (fun h4 => ?_) (fun h4 => ?_))
       ·refine sq fun _ k30 => ?_
        refine wps_keep [7] mK ?_
        refine rgn 0 ?_
        repeat refine ⟨sd, ?_⟩
        refine k30 (wps_ret ?_)
        refine retL [some 0, some 1, some 2, some 3, some 4] mA mO rfl rfl ?_
        exact mU
       ·exact absurd h4 (by simp)
    ·exact absurd h2 (by simp)
  ·exact absurd h2 (by simp)

theorem pageropen_ok (v g : Sec) (P : List Pend) (h0 : sget 0 v = none) (h1 : sget 1 v = none) : CallT Tryz.prog 44 [.p 0 0, .u (.i .i64 0), .u (.i .i64 200)] (dsk v g P)
  fun r σ => r = .tup [.p 8 0, .u (.i .i64 0)] ∧ σ = dsk v g P ++ [metaC 0, .map [], .map [], .map [], .cells [.p 0 0, .p 4 0, .u (.i .i64 0), .u (.i .i64 200), .u (.i .u64 0), .h 5, .h 6, .h 7]] := by
 have hm := metaopen_ok v g P h0 h1
 have hw : IntKind.i64.wrap 64734 = 64734 := by decide
 have hw2 : IntKind.i64.wrap (4 * 200) = 800 := by decide
 unfold dsk dskC metaC at *
 refine cof 54 [.tmp 6, .tmp 7] Tryz.func44 Tryz.ntmps44 fun c hnt hc0 => ?_
 refine sq fun _ k1 => rgn 0 ?_
 repeat refine ⟨sd, ?_⟩
 refine k1 (sq fun _ k2 => sq fun _ k3 => rg 0 ?_)
 refine evx2 hw2 hw ?_
 repeat refine ⟨sd, ?_⟩
 refine k3 (cd rfl (fun h1 => ?_) (fun h1 => ?_))
 ·exact absurd h1 (by simp)
 ·refine wps_skip (k2 (sq fun _ k4 => rgn 0 ?_))
  repeat refine ⟨sd, ?_⟩
  refine callT_atN [0, 1, 2, 3] [_, _, _, _] hm rfl rfl ⟨rfl, rfl, rfl, rfl, trivial⟩ mB mB rfl ?_
  refine fxl ?_
  refine evl ?_
  repeat refine ⟨sd, ?_⟩
  refine k4 (sq fun _ k5 => rgn 4 ?_)
  repeat refine ⟨sd, ?_⟩
  refine k5 (sq fun _ k6 => sq fun _ k7 => rgn 0 ?_)
  repeat refine ⟨sd, ?_⟩
  skip
  repeat refine ⟨sd, ?_⟩
  refine k7 (cd rfl (fun h2 => ?_) (fun h2 => ?_))
  ·exact absurd h2 (by simp)
  ·refine wps_skip (k6 (sq fun _ k8 => rgn 0 ?_))
   repeat refine ⟨sd, ?_⟩
   refine k8 (wps_ret ?_)
   refine retL [some 0, some 1, some 2, some 3, some 4, some 5, some 6, some 7, some 8] mA mO rfl rfl ?_
   exact mU

/-! ### is a segment in use: the list of those in use is still written -/
theorem segidxR_ok (l : List Seg) (i : Nat) (hl : l.length ≤ 10000) : CallT Tryz.prog 142 [.h 1, .fn 116 [.p 0 0]] [.cells [.u (.i .i64 (i : Int))], .row 169 3 (l.map segrow)]
  fun r σ => r = .u (.i .i64 (segIdx i 0 l)) ∧ σ = [.cells [.u (.i .i64 (i : Int))], .row 169 3 (l.map segrow)] := by
 obtain ⟨X, hX⟩ : ∃ X, segIdx i 0 l = X := ⟨_, rfl⟩
 rw [hX]
 refine cof 19 [.tmp 4] Tryz.func142 Tryz.ntmps142 fun c hnt hc0 => ?_
 refine sq fun _ k1 => rgn 0 ?_
 repeat refine ⟨sd, ?_⟩
 refine k1 (sq fun _ k2 => sq fun _ k3 => rgn 0 ?_)
 repeat refine ⟨sd, ?_⟩
 refine k3 (bk fun _ k4 => ?_)
 refine wps_loop (fun m e σ => ∃ k : Nat, m = l.length - k ∧ k ≤ l.length ∧ segIdx i k (l.drop k) = X ∧ e = [(0, .h 1), (1, .fn 116 [.p 0 0]), (7, .u (.i .i64 (l.length : Int))), (8, .u (.i .i64 (k : Int)))] ∧ σ = [.cells [.u (.i .i64 (i : Int))], .row 169 3 (l.map segrow)])
  (e0 := [(0, .h 1), (1, .fn 116 [.p 0 0]), (7, .u (.i .i64 (l.length : Int))), (8, .u (.i .i64 0))]) (σ0 := [.cells [.u (.i .i64 (i : Int))], .row 169 3 (l.map segrow)]) (entL hc0 [some 0, some 1] rfl rfl mB mB) ⟨0, rfl, by omega, hX, rfl, rfl⟩ fun KL m e1 σ1 hI hKL => ?_
 obtain ⟨k, rfl, hk, hx, rfl, rfl⟩ := hI
 refine sq fun _ k5 => rgn 0 ?_
 repeat refine ⟨sd, ?_⟩
 refine k5 (sq fun _ k6 => cd rfl (fun h1 => ?_) (fun h1 => ?_))
 ·have hlt : k < l.length := by simpa using h1
  have hel := seg_at hlt
  rw [gdrop_cons (d := (0, 0, 0)) hlt, segIdx] at hx
  have hw1 := wi1 k
  have hf := used1_ok (l.getD k (0, 0, 0)) i
  refine wps_skip (k6 (sq fun _ k7 => bk fun _ k8 => sq fun _ k9 => rgn 0 ?_))
  repeat refine ⟨sd, ?_⟩
  refine k9 (sq fun _ k10 => rg 0 ?_)
  refine evx hel ?_
  repeat refine ⟨sd, ?_⟩
  refine callT_at [0] [_] hf rfl rfl ⟨rfl, trivial⟩ mB mB rfl mR mR ?_
  refine evx hel ?_
  repeat refine ⟨sd, ?_⟩
  refine k10 (cd rfl (fun h2 => ?_) (fun h2 => ?_))
  ·have hii : (l.getD k (0, 0, 0)).1 = i := by
    have := beq_iff_eq.1 h2
    omega
   rw [if_pos hii] at hx
   refine sq fun _ k11 => rgn 0 ?_
   repeat refine ⟨sd, ?_⟩
   refine k11 (wps_ret ?_)
   refine retL [some 0, some 1] rfl ⟨trivial, trivial⟩ rfl rfl ?_
   simp only [go_sem, and_true, true_and, implies_true, reduceIte, Nat.reduceEqDiff, Nat.reduceAdd, Nat.reduceLT, hx]
  ·have hii : ¬ (l.getD k (0, 0, 0)).1 = i := by
    have := beq_eq_false_iff_ne.1 h2
    omega
   rw [if_neg hii] at hx
   refine wps_skip (k8 (k7 (rg 0 ?_)))
   refine evx hw1 ?_
   repeat refine ⟨sd, ?_⟩
   exact hKL _ _ (l.length - (k + 1)) _ _ (entL hc0 [some 0, some 1] rfl rfl mB mB) ⟨k + 1, rfl, by omega, hx, rfl, rfl⟩ (by omega)
 ·have hk2 : k = l.length := by simp at h1; omega
  subst hk2
  rw [List.drop_length] at hx
  simp only [segIdx] at hx
  refine wps_exit ?_
  simp only [reduceIte, Nat.reduceEqDiff]
  refine k4 (k2 (sq fun _ k12 => rgn 0 ?_))
  repeat refine ⟨sd, ?_⟩
  refine k12 (wps_ret ?_)
  refine retL [some 0, some 1] rfl ⟨trivial, trivial⟩ rfl rfl ?_
  simp only [go_sem, and_true, true_and, implies_true, reduceIte, Nat.reduceEqDiff, Nat.reduceAdd, Nat.reduceLT, hx]

theorem segcontR_ok (l : List Seg) (i : Nat) (hl : l.length ≤ 10000) : CallT Tryz.prog 115 [.h 1, .fn 116 [.p 0 0]] [.cells [.u (.i .i64 (i : Int))], .row 169 3 (l.map segrow)]
  fun r σ => r = .u (.b (usedB i l)) ∧ σ = [.cells [.u (.i .i64 (i : Int))], .row 169 3 (l.map segrow)] := by
 have h := segidxR_ok l i hl
 refine cof 9 [.tmp 4] Tryz.func115 Tryz.ntmps115 fun c hnt hc0 => ?_
 refine sq fun _ k1 => rgn 0 ?_
 repeat refine ⟨sd, ?_⟩
 refine k1 (sq fun _ k2 => rgn 0 ?_)
 repeat refine ⟨sd, ?_⟩
 refine callT_at [0, 1] [_, _] h rfl rfl ⟨rfl, rfl, trivial⟩ mB mB rfl mR mR ?_
 refine evl ?_
 repeat refine ⟨sd, ?_⟩
 refine k2 (wps_ret ?_)
 refine retL [some 0, some 1] rfl ⟨trivial, trivial⟩ rfl rfl ?_
 simp only [go_sem, and_true, true_and, implies_true, reduceIte, Nat.reduceEqDiff, Nat.reduceAdd, Nat.reduceLT, segIdx_used]

def logR (last synced : Nat) : SObj := .cells [.p 1 0, .u (.i .i64 802), .u (.i .i64 8), .u (.i .i64 16), .h 5, .u (.fz [] (some 0)), .u (.i .u64 (last : Int)), .u (.i .u64 (synced : Int))]
/-- a log whose list of segments is still written -/
def wlr (l : List Seg) (last synced : Nat) (v g : Sec) (P : List Pend) : List SObj := [logR last synced, .cells (dskC 2 3 4), .map (v.map sent), .map (g.map sent), .row 116 1 (P.map prow), .row 169 3 (l.map segrow)]
theorem usedR_ok (l : List Seg) (last synced : Nat) (v g : Sec) (P : List Pend) (i : Nat) (hl : l.length ≤ 10000) : CallT Tryz.prog 75 [.p 0 0, .u (.i .i64 (i : Int))] (wlr l last synced v g P)
  fun r σ => r = .u (.b (usedB i l)) ∧ σ = wlr l last synced v g P := by
 have h := segcontR_ok l i hl
 unfold wlr logR dskC
 refine cof 11 [.tmp 4] Tryz.func75 Tryz.ntmps75 fun c hnt hc0 => ?_
 refine sq fun _ k1 => rgn 1 ?_
 repeat refine ⟨sd, ?_⟩
 refine k1 (sq fun _ k2 => rgn 0 ?_)
 repeat refine ⟨sd, ?_⟩
 refine callT_at [6, 5] [_, _] h rfl rfl ⟨rfl, rfl, trivial⟩ mB mB rfl mR mR ?_
 refine evl ?_
 repeat refine ⟨sd, ?_⟩
 refine k2 (wps_ret ?_)
 refine retL [some 0, some 1, some 2, some 3, some 4, some 5] rfl ⟨trivial, trivial⟩ rfl rfl ?_
 exact mT

theorem frow_at {l : List Fnd} {i : Nat} (h : i < l.length) : (l.map frow).getD i [] = [.i .i64 ((l.getD i (0, 0, [])).1 : Int), .i .u64 ((l.getD i (0, 0, [])).2.1 : Int), .i .u64 ((l.getD i (0, 0, [])).2.2.length : Int), .fz ((recList (l.getD i (0, 0, [])).2.1 (l.getD i (0, 0, [])).2.2).map rrow) none] := by
 rw [List.getD_eq_getElem?_getD, List.getElem?_map, List.getElem?_eq_getElem h, List.getD_eq_getElem?_getD, List.getElem?_eq_getElem h]; rfl
def nxtB (last : Nat) (l : List Seg) (f : Fnd) : Bool := (f.2.1 == last + 1) && !usedB f.1 l
def nxtIdx (last : Nat) (l : List Seg) : Nat → List Fnd → Int
 | _, [] => -1
 | k, f :: r => if nxtB last l f then (k : Int) else nxtIdx last l (k + 1) r

theorem open1_ok (l : List Seg) (last synced : Nat) (v g : Sec) (P : List Pend) (f : Fnd) (hl : l.length ≤ 10000) (hlast : last ≤ 1000000) (hb : f.2.1 ≤ 2000000) : CallT Tryz.prog 74 [.agg [.u (.i .i64 (f.1 : Int)), .u (.i .u64 (f.2.1 : Int)), .u (.i .u64 (f.2.2.length : Int)), .u (.fz ((recList f.2.1 f.2.2).map rrow) none)], .p 6 0] (wlr l last synced v g P ++ [.cells [.p 0 0]])
  fun r σ => r = .u (.b (nxtB last l f)) ∧ σ = wlr l last synced v g P ++ [.cells [.p 0 0]] := by
 have hu := usedR_ok l last synced v g P f.1 hl
 have hw1 : IntKind.u64.wrap ((last : Int) + 1) = ((last + 1 : Nat) : Int) := by rw [wrapu64 (by omega) (by omega)]; omega
 have hbe : ((f.2.1 : Int) == ((last + 1 : Nat) : Int)) = (f.2.1 == last + 1) := by
  rw [Bool.eq_iff_iff, beq_iff_eq, beq_iff_eq]; omega
 obtain ⟨B, hB⟩ : ∃ B, (f.2.1 == last + 1) = B := ⟨_, rfl⟩
 rw [hB] at hbe
 rw [nxtB, hB]
 obtain ⟨U, hU⟩ : ∃ U, usedB f.1 l = U := ⟨_, rfl⟩
 rw [hU] at hu ⊢
 unfold wlr logR dskC at *
 refine cof 21 [.tmp 3] Tryz.func74 Tryz.ntmps74 fun c hnt hc0 => ?_
 simp only [List.cons_append, List.nil_append]
 refine sq fun _ k1 => rgn 1 ?_
 repeat refine ⟨sd, ?_⟩
 refine k1 (sq fun _ k2 => dr 0 [0, 1, 3, 0, 8, 24, 56, 120, 255, 511, 1023, 1023, 3071, 7167, 16383, 32767, 65535, 131071] mixed ?_)
 refine evx2 hw1 hbe ?_
 repeat refine ⟨sd, ?_⟩
 refine callG_at [0, 1, 2, 3, 4, 5] [_, _, _, _, _, _] (fun _ => trivial) en75 hu rfl rfl ⟨rfl, rfl, rfl, rfl, rfl, rfl, trivial⟩ mB mB rfl mR mR ?_
 refine evx2 hw1 hbe ?_
 repeat refine ⟨sd, ?_⟩
 refine k2 (wps_ret ?_)
 refine retL [some 0, some 1, some 2, some 3, some 4, some 5, some 6] rfl ⟨trivial, trivial⟩ rfl rfl ?_
 cases B <;> cases U <;> simp only [retSV, SV.mv, mvs, subL, List.map_nil, List.map_cons, SObj.mv, posOf, back, List.length_cons, List.length_nil, List.getElem?_cons_zero, List.getElem?_cons_succ, Option.map_some, Nat.reduceAdd, Nat.reduceLT, Nat.zero_add, Nat.lt_add_one, List.getD_cons_zero, List.getD_cons_succ, reduceIte, Nat.reduceEqDiff, Env.get, Env.put, and_true, true_and, implies_true, List.cons_append, List.nil_append, Bool.false_and, Bool.true_and, cond_true, cond_false]

theorem fndidx_ok (l : List Seg) (last synced : Nat) (v g : Sec) (P : List Pend) (all : List Fnd) (q : Option Nat) (hl : l.length ≤ 10000) (hlast : last ≤ 1000000) (hb : ∀ f ∈ all, f.2.1 ≤ 2000000) (hal : all.length ≤ 1000) : CallT Tryz.prog 73 [.u (.fz (all.map frow) q), .fn 74 [.p 6 0]] (wlr l last synced v g P ++ [.cells [.p 0 0]])
  fun r σ => r = .u (.i .i64 (nxtIdx last l 0 all)) ∧ σ = wlr l last synced v g P ++ [.cells [.p 0 0]] := by
 have hf := fun f h => open1_ok l last synced v g P f hl hlast h
 obtain ⟨X, hX⟩ : ∃ X, nxtIdx last l 0 all = X := ⟨_, rfl⟩
 rw [hX]
 unfold wlr logR dskC at *
 simp only [List.cons_append, List.nil_append] at *
 refine cof 19 [.tmp 4] Tryz.func73 Tryz.ntmps73 fun c hnt hc0 => ?_
 refine sq fun _ k1 => rgn 0 ?_
 repeat refine ⟨sd, ?_⟩
 refine k1 (sq fun _ k2 => sq fun _ k3 => rgn 0 ?_)
 repeat refine ⟨sd, ?_⟩
 refine k3 (bk fun _ k4 => ?_)
 refine wps_loop (fun m e σ => ∃ k : Nat, m = all.length - k ∧ k ≤ all.length ∧ nxtIdx last l k (all.drop k) = X ∧ e = [(0, .u (.fz (all.map frow) q)), (1, .fn 74 [.p 6 0]), (7, .u (.i .i64 (all.length : Int))), (8, .u (.i .i64 (k : Int)))] ∧ σ = [.cells [.p 1 0, .u (.i .i64 802), .u (.i .i64 8), .u (.i .i64 16), .h 5, .u (.fz [] (some 0)), .u (.i .u64 (last : Int)), .u (.i .u64 (synced : Int))], .cells [.u (.i .i64 1000), .u (.i .i64 1000), .h 2, .h 3, .h 4], .map (v.map sent), .map (g.map sent), .row 116 1 (P.map prow), .row 169 3 (l.map segrow), .cells [.p 0 0]])
  (e0 := [(0, .u (.fz (all.map frow) q)), (1, .fn 74 [.p 6 0]), (7, .u (.i .i64 (all.length : Int))), (8, .u (.i .i64 0))]) (σ0 := [.cells [.p 1 0, .u (.i .i64 802), .u (.i .i64 8), .u (.i .i64 16), .h 5, .u (.fz [] (some 0)), .u (.i .u64 (last : Int)), .u (.i .u64 (synced : Int))], .cells [.u (.i .i64 1000), .u (.i .i64 1000), .h 2, .h 3, .h 4], .map (v.map sent), .map (g.map sent), .row 116 1 (P.map prow), .row 169 3 (l.map segrow), .cells [.p 0 0]]) (entL hc0 [some 0, some 1, some 2, some 3, some 4, some 5, some 6] rfl rfl mB mB) ⟨0, rfl, by omega, hX, rfl, rfl⟩ fun KL m e1 σ1 hI hKL => ?_
 obtain ⟨k, rfl, hk, hx, rfl, rfl⟩ := hI
 refine sq fun _ k5 => rgn 0 ?_
 repeat refine ⟨sd, ?_⟩
 refine k5 (sq fun _ k6 => cd rfl (fun h1 => ?_) (fun h1 => ?_))
 ·have hlt : k < all.length := by simpa using h1
  have hel := frow_at hlt
  rw [gdrop_cons (d := (0, 0, [])) hlt, nxtIdx] at hx
  have hw1 := wi1 k
  have hff := hf (all.getD k (0, 0, [])) (hb _ (getD_mem hlt))
  refine wps_skip (k6 (sq fun _ k7 => bk fun _ k8 => sq fun _ k9 => rgn 0 ?_))
  repeat refine ⟨sd, ?_⟩
  refine k9 (sq fun _ k10 => rg 0 ?_)
  refine evx hel ?_
  repeat refine ⟨sd, ?_⟩
  refine callT_at [0, 1, 2, 3, 4, 5, 6] [_, _, _, _, _, _, _] hff rfl rfl ⟨rfl, rfl, rfl, rfl, rfl, rfl, rfl, trivial⟩ mB mB rfl mR mR ?_
  refine evx hel ?_
  repeat refine ⟨sd, ?_⟩
  refine k10 (cd rfl (fun h2 => ?_) (fun h2 => ?_))
  ·rw [if_pos h2] at hx
   refine sq fun _ k11 => rgn 0 ?_
   repeat refine ⟨sd, ?_⟩
   refine k11 (wps_ret ?_)
   refine retL [some 0, some 1, some 2, some 3, some 4, some 5, some 6] rfl ⟨trivial, trivial⟩ rfl rfl ?_
   simp only [go_sem, and_true, true_and, implies_true, reduceIte, Nat.reduceEqDiff, Nat.reduceAdd, Nat.reduceLT, hx]
  ·rw [if_neg (by rw [h2]; simp)] at hx
   refine wps_skip (k8 (k7 (rg 0 ?_)))
   refine evx hw1 ?_
   repeat refine ⟨sd, ?_⟩
   exact hKL _ _ (all.length - (k + 1)) _ _ (entL hc0 [some 0, some 1, some 2, some 3, some 4, some 5, some 6] rfl rfl mB mB) ⟨k + 1, rfl, by omega, hx, rfl, rfl⟩ (by omega)
 ·have hk2 : k = all.length := by simp at h1; omega
  subst hk2
  rw [List.drop_length] at hx
  simp only [nxtIdx] at hx
  refine wps_exit ?_
  simp only [reduceIte, Nat.reduceEqDiff]
  refine k4 (k2 (sq fun _ k12 => rgn 0 ?_))
  repeat refine ⟨sd, ?_⟩
  refine k12 (wps_ret ?_)
  refine retL [some 0, some 1, some 2, some 3, some 4, some 5, some 6] rfl ⟨trivial, trivial⟩ rfl rfl ?_
  simp only [go_sem, and_true, true_and, implies_true, reduceIte, Nat.reduceEqDiff, Nat.reduceAdd, Nat.reduceLT, hx]

theorem recList_at : ∀ {d : List (List UInt8)} {f i : Nat}, i < d.length → (recList f d).getD i (0, []) = (f + i, d.getD i [])
 | [], f, i, h => by simp at h
 | x :: d, f, 0, h => by simp [recList]
 | x :: d, f, i + 1, h => by
  rw [recList, List.getD_cons_succ, recList_at (by simpa using h), List.getD_cons_succ]
  congr 1; omega
theorem rrow_at {l : List (Nat × List UInt8)} {i : Nat} (h : i < l.length) : (l.map rrow).getD i [] = [.i .u64 ((l.getD i (0, [])).1 : Int), .s (l.getD i (0, [])).2] := by
 rw [List.getD_eq_getElem?_getD, List.getElem?_map, List.getElem?_eq_getElem h, List.getD_eq_getElem?_getD, List.getElem?_eq_getElem h]; rfl

theorem wtake_ok (l : List Seg) (last synced : Nat) (v g : Sec) (P : List Pend) (f : Fnd) (hl : l.length ≤ 10000) (hb0 : 1 ≤ f.2.1) (hb : f.2.1 + f.2.2.length ≤ 2000000) : CallT Tryz.prog 72 [.p 0 0, .agg [.u (.i .i64 (f.1 : Int)), .u (.i .u64 (f.2.1 : Int)), .u (.i .u64 (f.2.2.length : Int)), .u (.fz ((recList f.2.1 f.2.2).map rrow) none)], .u (.i .u64 0)] (wlr l last synced v g P)
  fun r σ => r = .u (.fz ((recList f.2.1 f.2.2).map rrow) none) ∧ σ = [.cells [.p 1 0, .u (.i .i64 802), .u (.i .i64 8), .u (.i .i64 16), .h 6, .u (.fz [] (some 0)), .u (.i .u64 ((f.2.1 + f.2.2.length - 1 : Nat) : Int)), .u (.i .u64 (synced : Int))], .cells [.u (.i .i64 1000), .u (.i .i64 1000), .h 2, .h 3, .h 4], .map (v.map sent), .map (g.map sent), .row 116 1 (P.map prow), .dead] ++ [.row 169 3 ((l ++ [(f.1, f.2.1, f.2.2.length)]).map segrow)] := by
 obtain ⟨at_, base, ds⟩ := f
 simp only at *
 have hr1 := segrow_ok1 l
 have hr2 := segrow_ok2 l
 have hrl := recList_len ds base
 have hw1 : IntKind.u64.wrap ((base : Int) + (ds.length : Int)) = ((base + ds.length : Nat) : Int) := by rw [wrapu64 (by omega) (by omega)]; omega
 have hw2 : IntKind.u64.wrap (((base + ds.length : Nat) : Int) - 1) = ((base + ds.length - 1 : Nat) : Int) := by rw [wrapu64 (by omega) (by omega)]; omega
 obtain ⟨RL, hRL⟩ : ∃ RL, recList base ds = RL := ⟨_, rfl⟩
 have hat : ∀ i, i < RL.length → 0 < (RL.getD i (0, [])).1 := fun i hi => by
  rw [← hRL] at hi
  rw [← hRL, recList_at (by omega)]; simp only; omega
 rw [hRL] at hrl ⊢
 unfold wlr logR dskC
 refine cof 49 [.tmp 6] Tryz.func72 Tryz.ntmps72 fun c hnt hc0 => ?_
 refine sq fun _ k1 => rgn 1 ?_
 repeat refine ⟨sd, ?_⟩
 refine k1 (sq fun _ k2 => dr 1 [0, 0, 2, 6, 14, 0, 32, 96, 254, 511, 1023, 2047] mixed ?_)
 refine evl ?_
 repeat refine ⟨sd, ?_⟩
 refine k2 (sq fun _ k3 => rg 0 ?_)
 refine evx2 hw1 hw2 ?_
 repeat refine ⟨sd, ?_⟩
 refine k3 (sq fun _ k4 => ?_)
 refine wps_keep [2, 4] mK ?_
 refine rgn 0 ?_
 repeat refine ⟨sd, ?_⟩
 refine k4 (sq fun _ k5 => sq fun _ k6 => rgn 0 ?_)
 repeat refine ⟨sd, ?_⟩
 refine k6 (bk fun _ k7 => ?_)
 refine wps_loop (fun m e σ => ∃ k : Nat, m = RL.length - k ∧ k ≤ RL.length ∧ e = [(2, .u (.i .u64 0)), (7, .h 7), (33, .u (.fz (RL.map rrow) none)), (34, .u (.i .i64 (RL.length : Int))), (35, .u (.i .i64 (k : Int)))] ∧ σ = [.cells [.p 1 0, .u (.i .i64 802), .u (.i .i64 8), .u (.i .i64 16), .h 6, .u (.fz [] (some 0)), .u (.i .u64 ((base + ds.length - 1 : Nat) : Int)), .u (.i .u64 (synced : Int))], .cells [.u (.i .i64 1000), .u (.i .i64 1000), .h 2, .h 3, .h 4], .map (v.map sent), .map (g.map sent), .row 116 1 (P.map prow), .dead, .row 169 3 ((l ++ [(at_, base, ds.length)]).map segrow), .row 127 2 ((RL.take k).map rrow)])
  (e0 := [(2, .u (.i .u64 0)), (7, .h 7), (33, .u (.fz (RL.map rrow) none)), (34, .u (.i .i64 (RL.length : Int))), (35, .u (.i .i64 0))]) (σ0 := [.cells [.p 1 0, .u (.i .i64 802), .u (.i .i64 8), .u (.i .i64 16), .h 6, .u (.fz [] (some 0)), .u (.i .u64 ((base + ds.length - 1 : Nat) : Int)), .u (.i .u64 (synced : Int))], .cells [.u (.i .i64 1000), .u (.i .i64 1000), .h 2, .h 3, .h 4], .map (v.map sent), .map (g.map sent), .row 116 1 (P.map prow), .dead, .row 169 3 ((l ++ [(at_, base, ds.length)]).map segrow), .row 127 2 []]) ((ent_thaw 127 2 (t := 7) rfl).trans (entL hc0 [some 0, some 1, some 2, some 3, some 4, some 5, some 7, some 8] rfl rfl mB (by simp only [go_sem, reduceIte, Nat.reduceEqDiff, Nat.reduceAdd, Nat.reduceLT, List.map_append, List.map_cons, List.map_nil, segrow, List.cons_append, List.nil_append]))) ⟨0, rfl, by omega, rfl, rfl⟩ fun KL m e1 σ1 hI hKL => ?_
 obtain ⟨k, rfl, hk, rfl, rfl⟩ := hI
 refine sq fun _ k8 => rgn 0 ?_
 repeat refine ⟨sd, ?_⟩
 refine k8 (sq fun _ k9 => cd rfl (fun h1 => ?_) (fun h1 => ?_))
 ·have hlt : k < RL.length := by simpa using h1
  have hel := rrow_at hlt
  have hpos := hat k hlt
  have hts := gtake_succ (d := ((0, []) : Nat × List UInt8)) hlt
  obtain ⟨r0, hr0⟩ : ∃ r0, RL.getD k (0, []) = r0 := ⟨_, rfl⟩
  rw [hr0] at hel hpos hts
  have hw3 := wi1 k
  have hd0 : decide ((0 : Int) < (r0.1 : Int)) = true := decide_eq_true (by omega)
  obtain ⟨hq1, hq2⟩ := rrow_ok (RL.take k)
  refine wps_skip (k9 (sq fun _ k10 => bk fun _ k11 => sq fun _ k12 => rg 1 ?_))
  refine evx hel ?_
  repeat refine ⟨sd, ?_⟩
  refine k12 (sq fun _ k13 => rg 0 ?_)
  refine evx hd0 ?_
  repeat refine ⟨sd, ?_⟩
  refine k13 (cd rfl (fun h2 => ?_) (fun h2 => ?_))
  ·refine rgn 1 ?_
   repeat refine ⟨sd, ?_⟩
   refine k11 (k10 (rg 0 ?_))
   refine evx hw3 ?_
   repeat refine ⟨sd, ?_⟩
   exact hKL _ _ (RL.length - (k + 1)) _ [.cells [.p 1 0, .u (.i .i64 802), .u (.i .i64 8), .u (.i .i64 16), .h 6, .u (.fz [] (some 0)), .u (.i .u64 ((base + ds.length - 1 : Nat) : Int)), .u (.i .u64 (synced : Int))], .cells [.u (.i .i64 1000), .u (.i .i64 1000), .h 2, .h 3, .h 4], .map (v.map sent), .map (g.map sent), .row 116 1 (P.map prow), .dead, .row 169 3 ((l ++ [(at_, base, ds.length)]).map segrow), .row 127 2 ((RL.take (k + 1)).map rrow)] (entL hc0 [some 0, some 1, some 2, some 3, some 4, some 5, some 6, some 9] rfl rfl mB (by rw [show (RL.take (k + 1)).map rrow = (RL.take k).map rrow ++ [rrow r0] from by rw [hts, List.map_append]; rfl]; simp only [go_sem, reduceIte, Nat.reduceEqDiff, Nat.reduceAdd, Nat.reduceLT, rrow])) ⟨k + 1, rfl, by omega, rfl, rfl⟩ (by omega)
  ·exact absurd h2 (by simp)
 ·have hk2 : k = RL.length := by simp at h1; omega
  subst hk2
  rw [List.take_length]
  refine wps_exit ?_
  simp only [reduceIte, Nat.reduceEqDiff]
  refine k7 (k5 (sq fun _ k14 => rgn 0 ?_))
  repeat refine ⟨sd, ?_⟩
  refine k14 ?_
  refine wps_ent (e' := [(6, .u (.fz (RL.map rrow) none))]) (σ' := [.cells [.p 1 0, .u (.i .i64 802), .u (.i .i64 8), .u (.i .i64 16), .h 6, .u (.fz [] (some 0)), .u (.i .u64 ((base + ds.length - 1 : Nat) : Int)), .u (.i .u64 (synced : Int))], .cells [.u (.i .i64 1000), .u (.i .i64 1000), .h 2, .h 3, .h 4], .map (v.map sent), .map (g.map sent), .row 116 1 (P.map prow), .dead, .row 169 3 ((l ++ [(at_, base, ds.length)]).map segrow)]) ((entF 7 rfl (e' := [(6, .u (.fz (RL.map rrow) none))]) mB rfl).trans (entL hc0 [some 0, some 1, some 2, some 3, some 4, some 5, some 6] rfl rfl mB mB)) ?_
  refine wps_ret ?_
  refine retL [some 0, some 1, some 2, some 3, some 4, some 5, some 6] rfl ⟨trivial, trivial⟩ rfl rfl ?_
  exact mU

/-! ### the log on a disk -/
def segOf (f : Fnd) : Seg := (f.1, f.2.1, f.2.2.length)
structure AllOK (all : List Fnd) : Prop where
 len : all.length ≤ 8
 ats : (all.map Prod.fst).Nodup
 pos : ∀ f ∈ all, 1 ≤ f.2.1 ∧ f.2.1 + f.2.2.length ≤ 1000000
 inc : all.Pairwise fun f g => f.2.1 < g.2.1 ∧ f.2.1 + f.2.2.length ≤ g.2.1
def chainN : List Fnd → Nat
 | [] => 0
 | [_] => 1
 | f :: g :: r => if g.2.1 = f.2.1 + f.2.2.length then chainN (g :: r) + 1 else 1
/-- which of those found are taken -/
def takenN (all : List Fnd) : Nat := if (match all with | [] => false | f :: _ => f.2.1 == 1) then chainN all else 0
def outL (all : List Fnd) : List (Nat × List UInt8) := all.flatMap fun f => recList f.2.1 f.2.2
def lastL (all : List Fnd) : Nat := match all.getLast? with | none => 0 | some f => f.2.1 + f.2.2.length - 1
def freeU (l : List Seg) : Nat → Sec × List Pend → Sec × List Pend
 | 0, s => s
 | n + 1, s => if usedB n l then freeU l n s else freeI n 16 (freeU l n s)
theorem freeU_len (l : List Seg) (s : Sec × List Pend) : ∀ n, (freeU l n s).2.length ≤ s.2.length + 16 * n
 | 0 => Nat.le_refl _
 | n + 1 => by
  have := freeU_len l s n
  rw [freeU]
  split
  ·omega
  ·have := freeI_len n 16 (freeU l n s); omega
theorem freeI_ok (i : Nat) : ∀ (n : Nat) {s : Sec × List Pend}, SecOK s.1 → SecOK (freeI i n s).1
 | 0, s, h => h
 | n + 1, s, h => by
  have := freeI_ok i n h
  rw [freeI, free1]
  split
  ·exact this
  ·exact this.del _
theorem freeU_ok (l : List Seg) {s : Sec × List Pend} (h : SecOK s.1) : ∀ n, SecOK (freeU l n s).1
 | 0 => h
 | n + 1 => by
  have := freeU_ok l h n
  rw [freeU]
  split
  ·exact this
  ·exact freeI_ok n 16 this

theorem nxt_none {last : Nat} {l : List Seg} : ∀ {all : List Fnd} {k : Nat}, (∀ f ∈ all, nxtB last l f = false) → nxtIdx last l k all = -1
 | [], k, _ => rfl
 | f :: r, k, h => by
  rw [nxtIdx, if_neg (by rw [h f (by simp)]; simp)]
  exact nxt_none fun x hx => h x (by simp [hx])
theorem nxt_some {last : Nat} {l : List Seg} {f : Fnd} {B : List Fnd} (hf : nxtB last l f = true) : ∀ {A : List Fnd} {k : Nat}, (∀ x ∈ A, nxtB last l x = false) → nxtIdx last l k (A ++ f :: B) = ((k + A.length : Nat) : Int)
 | [], k, _ => by rw [List.nil_append, nxtIdx, if_pos hf]; rfl
 | x :: A, k, h => by
  rw [List.cons_append, nxtIdx, if_neg (by rw [h x (by simp)]; simp), nxt_some hf fun y hy => h y (by simp [hy])]
  rw [List.length_cons]; congr 1; omega
theorem used_map {l : List Fnd} {i : Nat} : usedB i (l.map segOf) = l.any fun f => f.1 == i := by
 rw [usedB, List.any_map]; rfl

/-- behind one that was taken: the next one -/
def nxtOf (f : Fnd) (n : Nat) : List Fnd → Int
 | [] => -1
 | g :: _ => if g.2.1 = f.2.1 + f.2.2.length then ((n + 1 : Nat) : Int) else -1
theorem nxt_step {all : List Fnd} (h : AllOK all) {A : List Fnd} {f : Fnd} {B : List Fnd} (hA : all = A ++ f :: B) :
  nxtIdx (f.2.1 + f.2.2.length - 1) ((A ++ [f]).map segOf) 0 all = nxtOf f A.length B := by
 have hpos := h.pos f (by rw [hA]; simp)
 have hats := h.ats
 have hinc := h.inc
 rw [hA] at hats hinc
 have hlast : f.2.1 + f.2.2.length - 1 + 1 = f.2.1 + f.2.2.length := by omega
 have hold : ∀ x ∈ A ++ [f], nxtB (f.2.1 + f.2.2.length - 1) ((A ++ [f]).map segOf) x = false := fun x hx => by
  have : usedB x.1 ((A ++ [f]).map segOf) = true := by
   rw [used_map, List.any_eq_true]; exact ⟨x, hx, by simp⟩
  rw [nxtB, this]; simp
 have hpw := List.pairwise_append.1 hinc
 have hfB := (List.pairwise_cons.1 hpw.2.1).1
 have hfB2 := (List.pairwise_cons.1 hpw.2.1).2
 cases B with
 | nil =>
  rw [hA, nxtOf]
  exact nxt_none fun x hx => hold x (by simpa using hx)
 | cons g r =>
  rw [nxtOf]
  have hgr := (List.pairwise_cons.1 hfB2).1
  have hnew : ∀ x ∈ g :: r, usedB x.1 ((A ++ [f]).map segOf) = false := fun x hx => by
   rw [used_map, List.any_eq_false]
   intro y hy
   have hnd : (((A ++ [f]) ++ g :: r).map Prod.fst).Nodup := by simpa using hats
   rw [List.map_append, List.nodup_append] at hnd
   have := hnd.2.2 y.1 (List.mem_map_of_mem hy) x.1 (List.mem_map_of_mem hx)
   simpa using this
  have hfg := hfB g (by simp)
  have hr : ∀ x ∈ r, nxtB (f.2.1 + f.2.2.length - 1) ((A ++ [f]).map segOf) x = false := fun x hx => by
   have h1 := (hgr x hx).1
   rw [nxtB, hlast]
   have : ¬ x.2.1 = f.2.1 + f.2.2.length := by omega
   simp [this]
  by_cases hc : g.2.1 = f.2.1 + f.2.2.length
  ·rw [if_pos hc, hA, show A ++ f :: g :: r = (A ++ [f]) ++ g :: r by simp]
   have hb : nxtB (f.2.1 + f.2.2.length - 1) ((A ++ [f]).map segOf) g = true := by
    rw [nxtB, hlast, hnew g (by simp), hc]; simp
   rw [nxt_some hb hold]
   simp
  ·rw [if_neg hc, hA, show A ++ f :: g :: r = (A ++ [f]) ++ g :: r by simp]
   refine nxt_none fun x hx => ?_
   rcases List.mem_append.1 hx with hx | hx
   ·exact hold x hx
   ·rcases List.mem_cons.1 hx with rfl | hx
    ·rw [nxtB, hlast]
     simp [hc]
    ·exact hr x hx
theorem outL_app (a b : List Fnd) : outL (a ++ b) = outL a ++ outL b := by simp [outL]
theorem outL_len {all : List Fnd} (h : ∀ f ∈ all, f.2.2.length ≤ 1000000) : (outL all).length ≤ 1000000 * all.length := by
 induction all with
 | nil => simp [outL]
 | cons f r ih =>
  have h1 := ih fun x hx => h x (by simp [hx])
  have h2 := h f (by simp)
  have : (outL (f :: r)).length = f.2.2.length + (outL r).length := by simp [outL, recList_len]
  rw [this, List.length_cons]; omega
end Go.Proofs.YtefipnajpabfgaaGreatDoor
