/- Part 3 of the proof: what functions of the program do, and plain facts on what they compute. -/
import Derived.Test.YtefipnajpabfgaaGreatDoorP2
set_option linter.all false
set_option maxRecDepth 40000
set_option maxHeartbeats 16000000
set_option linter.unusedSimpArgs false
set_option linter.unusedVariables false
namespace Go.Proofs.YtefipnajpabfgaaGreatDoor
open Go.Nm

/-! ### a writer of fields -/
def wrC (l : List UInt8) : List SObj := [.cells [.h 1, .u (.i .i64 0)], .row 5 1 (bs l)]
/-- behind a call that has put something: the row is another one -/
def wrN : List SObj := [.cells [.h 2, .u (.i .i64 0)], .dead]
def urow (v : Nat) : List PV := [.i .u64 (v : Int)]
theorem urow_at {vs : List Nat} {i : Nat} (h : i < vs.length) : (vs.map urow).getD i [] = [.i .u64 ((vs.getD i 0 : Nat) : Int)] := by
 rw [List.getD_eq_getElem?_getD, List.getElem?_map, List.getElem?_eq_getElem h, List.getD_eq_getElem?_getD, List.getElem?_eq_getElem h]; rfl
theorem gtake_succ {α : Type} {l : List α} {i : Nat} {d : α} (h : i < l.length) : l.take (i + 1) = l.take i ++ [l.getD i d] := by
 rw [List.take_succ, List.getElem?_eq_getElem h, List.getD_eq_getElem?_getD, List.getElem?_eq_getElem h]; rfl
theorem getD_mem {α : Type} {l : List α} {i : Nat} {d : α} (h : i < l.length) : l.getD i d ∈ l := by
 rw [List.getD_eq_getElem?_getD, List.getElem?_eq_getElem h]; exact List.getElem_mem h
def vputs (vs : List Nat) : List UInt8 := vs.flatMap vput
theorem vputs_app (a : List Nat) (v : Nat) : vputs (a ++ [v]) = vputs a ++ vput v := by simp [vputs]
theorem vputs_len (vs : List Nat) (h : ∀ v ∈ vs, v < 18446744073709551616) : (vputs vs).length ≤ 10 * vs.length := by
 induction vs with
 | nil => simp [vputs]
 | cons v vs ih =>
  have h1 := vput_10 v (h v (by simp))
  have h2 := ih fun x hx => h x (by simp [hx])
  simp [vputs] at h2 ⊢; omega

theorem wnew_ok : CallT Tryz.prog 58 [] [] fun r σ => r = .p 0 0 ∧ σ = [] ++ wrC [] := by
 unfold wrC
 refine cof 3 [.tmp 0] Tryz.func58 Tryz.ntmps58 fun c hnt hc0 => ?_
 refine sq fun _ k1 => rgn 0 ?_
 repeat refine ⟨sd, ?_⟩
 refine k1 (sq fun _ k2 => rgn 1 ?_)
 repeat refine ⟨sd, ?_⟩
 refine k2 ?_
 refine wps_ent (e' := [(0, .p 0 0)]) (σ' := [.cells [.h 1, .u (.i .i64 0)], .row 5 1 []]) ((ent_thawC 0 0 5 1 rfl rfl).trans (entL hc0 [some 0, some 1] rfl rfl mB (by simp only [go_sem, reduceIte, Nat.reduceEqDiff]))) ?_
 refine wps_ret ?_
 refine retL [some 0, some 1] rfl ⟨trivial, trivial⟩ rfl rfl ?_
 simp only [go_sem, and_true, true_and, implies_true, reduceIte, Nat.reduceEqDiff, Nat.reduceAdd, Nat.reduceLT, List.nil_append, bs_nil]

theorem wnum_ok (l : List UInt8) (vs : List Nat) (q : Option Nat) (hv : ∀ v ∈ vs, v < 18446744073709551616) (hl : l.length + 10 * vs.length ≤ 900000) : CallT Tryz.prog 59 [.p 0 0, .u (.fz (vs.map urow) q)] (wrC l)
  fun r σ => r = .tup [] ∧ σ = wrN ++ [.row 5 1 (bs (l ++ vputs vs))] := by
 unfold wrC wrN
 refine cof 27 [] Tryz.func59 Tryz.ntmps59 fun c hnt hc0 => ?_
 refine sq fun _ k1 => rgn 0 ?_
 repeat refine ⟨sd, ?_⟩
 refine k1 (bk fun _ k2 => ?_)
 refine wps_loop (fun k e σ => ∃ i : Nat, k = vs.length - i ∧ i ≤ vs.length ∧ e = [(0, .p 0 0), (6, .u (.fz (vs.map urow) q)), (7, .u (.i .i64 (vs.length : Int))), (8, .u (.i .i64 (i : Int)))] ∧ σ = [.cells [.h 2, .u (.i .i64 0)], .dead, .row 5 1 (bs (l ++ vputs (vs.take i)))])
  (e0 := [(0, .p 0 0), (6, .u (.fz (vs.map urow) q)), (7, .u (.i .i64 (vs.length : Int))), (8, .u (.i .i64 0))]) (σ0 := [.cells [.h 2, .u (.i .i64 0)], .dead, .row 5 1 (bs l)]) (entL2 hc0 [some 0, none, some 1] rfl rfl mB mB) ⟨0, rfl, Nat.zero_le _, rfl, by simp [vputs]⟩ fun KL k e1 σ1 hI hKL => ?_
 obtain ⟨i, rfl, hi, rfl, rfl⟩ := hI
 refine sq fun _ k3 => rgn 0 ?_
 repeat refine ⟨sd, ?_⟩
 refine k3 (sq fun _ k4 => cd rfl (fun h1 => ?_) (fun h1 => ?_))
 ·simp at h1
  have hel := urow_at h1
  obtain ⟨v, hvd⟩ : ∃ v, vs.getD i 0 = v := ⟨_, rfl⟩
  have hv1 : v < 18446744073709551616 := by rw [← hvd]; exact hv _ (getD_mem h1)
  have hts := gtake_succ (d := 0) h1
  rw [hvd] at hel hts
  have hvl := vputs_len (vs.take i) (fun x hx => hv x (List.mem_of_mem_take hx))
  have hvl2 : (vs.take i).length = i := by simp; omega
  have hp := putvar_fz (l ++ vputs (vs.take i)) none v (by simp; omega) hv1
  rw [List.append_assoc, ← vputs_app, ← hts] at hp
  have hw1 := wi1 i
  refine wps_skip (k4 (sq fun _ k5 => bk fun _ k6 => sq fun _ k7 => rg 0 ?_))
  refine evx hel ?_
  repeat refine ⟨sd, ?_⟩
  refine k7 (sq fun _ k8 => rgn 0 ?_)
  repeat refine ⟨sd, ?_⟩
  refine k8 (cd rfl (fun h2 => ?_) (fun h2 => ?_))
  ·refine rgn 0 ?_
   repeat refine ⟨sd, ?_⟩
   refine callT_frz 2 rfl ?_
   simp only [go_sem, reduceIte, Nat.reduceEqDiff]
   refine callT_new hp mB ?_
   refine rtl ?_
   refine evl ?_
   repeat refine ⟨sd, ?_⟩
   refine k6 (k5 (rg 0 ?_))
   refine evx hw1 ?_
   repeat refine ⟨sd, ?_⟩
   exact hKL _ _ (vs.length - (i + 1)) _ _ (entL2 hc0 [some 0, none, some 3] rfl rfl mB mB) ⟨i + 1, rfl, by omega, rfl, rfl⟩ (by omega)
  ·exact absurd h2 (by simp)
 ·have hil : i = vs.length := by simp at h1; omega
  subst hil
  rw [List.take_length]
  refine wps_exit ?_
  simp only [reduceIte, Nat.reduceEqDiff]
  refine k2 ?_
  refine retL [some 0, some 1, some 2] rfl trivial rfl rfl ?_
  exact mU

def trow (s : List UInt8) : List PV := [.s s]
theorem trow_at {ss : List (List UInt8)} {i : Nat} (h : i < ss.length) : (ss.map trow).getD i [] = [.s (ss.getD i [])] := by
 rw [List.getD_eq_getElem?_getD, List.getElem?_map, List.getElem?_eq_getElem h, List.getD_eq_getElem?_getD, List.getElem?_eq_getElem h]; rfl
/-- a text as a field -/
def tput (s : List UInt8) : List UInt8 := vput s.length ++ s
def tputs (ss : List (List UInt8)) : List UInt8 := ss.flatMap tput
theorem tputs_app (a : List (List UInt8)) (s : List UInt8) : tputs (a ++ [s]) = tputs a ++ tput s := by simp [tputs]

theorem wtext_ok (l : List UInt8) (ss : List (List UInt8)) (q : Option Nat) (hc : ss.length ≤ 1000) (hs : ∀ s ∈ ss, s.length ≤ 65536) (hl : l.length + (tputs ss).length + 10 ≤ 800000) : CallT Tryz.prog 100 [.p 0 0, .u (.fz (ss.map trow) q)] (wrC l)
  fun r σ => r = .tup [] ∧ σ = wrN ++ [.row 5 1 (bs (l ++ tputs ss))] := by
 unfold wrC wrN
 refine cof 46 [] Tryz.func100 Tryz.ntmps100 fun c hnt hc0 => ?_
 refine sq fun _ k1 => rgn 0 ?_
 repeat refine ⟨sd, ?_⟩
 refine k1 (bk fun _ k2 => ?_)
 refine wps_loop (fun k e σ => ∃ i : Nat, k = ss.length - i ∧ i ≤ ss.length ∧ e = [(0, .p 0 0), (6, .u (.fz (ss.map trow) q)), (7, .u (.i .i64 (ss.length : Int))), (8, .u (.i .i64 (i : Int)))] ∧ σ = [.cells [.h 2, .u (.i .i64 0)], .dead, .row 5 1 (bs (l ++ tputs (ss.take i)))])
  (e0 := [(0, .p 0 0), (6, .u (.fz (ss.map trow) q)), (7, .u (.i .i64 (ss.length : Int))), (8, .u (.i .i64 0))]) (σ0 := [.cells [.h 2, .u (.i .i64 0)], .dead, .row 5 1 (bs l)]) (entL2 hc0 [some 0, none, some 1] rfl rfl mB mB) ⟨0, rfl, Nat.zero_le _, rfl, by simp [tputs]⟩ fun KL k e1 σ1 hI hKL => ?_
 obtain ⟨i, rfl, hi, rfl, rfl⟩ := hI
 refine sq fun _ k3 => rgn 0 ?_
 repeat refine ⟨sd, ?_⟩
 refine k3 (sq fun _ k4 => cd rfl (fun h1 => ?_) (fun h1 => ?_))
 ·simp at h1
  have hel := trow_at h1
  obtain ⟨s, hsd⟩ : ∃ s, ss.getD i [] = s := ⟨_, rfl⟩
  have hsl : s.length ≤ 65536 := by rw [← hsd]; exact hs _ (getD_mem h1)
  have hts := gtake_succ (d := []) h1
  rw [hsd] at hel hts
  have hpart : (tputs (ss.take (i + 1))).length ≤ (tputs ss).length := by
   have h2 : tputs ss = tputs (ss.take (i + 1)) ++ tputs (ss.drop (i + 1)) := by
    unfold tputs
    rw [← List.flatMap_append, List.take_append_drop]
   rw [h2]; simp
  rw [hts, tputs_app] at hpart
  simp [tput] at hpart
  have hlt : decide ((65536 : Int) < (s.length : Int)) = false := by simp; omega
  have hwu := wrapu_nat (n := s.length) (by omega)
  have hn := wnum_ok (l ++ tputs (ss.take i)) [s.length] (some 1) (by simp; omega) (by simp; omega)
  simp only [wrC, wrN, List.map_cons, List.map_nil, urow, vputs, List.flatMap_cons, List.flatMap_nil, List.append_nil, List.append_assoc] at hn
  have hw1 := wi1 i
  have hfin : l ++ (tputs (ss.take i) ++ vput s.length) ++ s = l ++ tputs (ss.take (i + 1)) := by
   rw [hts, tputs_app, tput]; simp
  refine wps_skip (k4 (sq fun _ k5 => bk fun _ k6 => sq fun _ k7 => rg 0 ?_))
  refine evx hel ?_
  repeat refine ⟨sd, ?_⟩
  refine k7 (sq fun _ k8 => sq fun _ k9 => rg 0 ?_)
  refine evx hlt ?_
  repeat refine ⟨sd, ?_⟩
  refine k9 (cd rfl (fun h2 => ?_) (fun h2 => ?_))
  ·exact absurd h2 (by simp)
  ·refine wps_skip (k8 (sq fun _ k10 => rg 0 ?_))
   refine evx hwu ?_
   repeat refine ⟨sd, ?_⟩
   refine callT_atN [0, 2] [_, _] hn rfl rfl ⟨rfl, rfl, trivial⟩ mB mB rfl ?_
   refine fxl ?_
   refine evx hwu ?_
   repeat refine ⟨sd, ?_⟩
   refine k10 (sq fun _ k11 => rgn 0 ?_)
   repeat refine ⟨sd, ?_⟩
   refine k11 (cd rfl (fun h3 => ?_) (fun h3 => ?_))
   ·refine rg 1 ?_
    refine evx2 @bs_app hfin ?_
    repeat refine ⟨sd, ?_⟩
    refine k6 (k5 (rg 0 ?_))
    refine evx hw1 ?_
    repeat refine ⟨sd, ?_⟩
    exact hKL _ _ (ss.length - (i + 1)) _ _ (entL2 hc0 [some 0, none, some 4] rfl rfl mB mB) ⟨i + 1, rfl, by omega, rfl, rfl⟩ (by omega)
   ·exact absurd h3 (by simp)
 ·have hil : i = ss.length := by simp at h1; omega
  subst hil
  rw [List.take_length]
  refine wps_exit ?_
  simp only [reduceIte, Nat.reduceEqDiff]
  refine k2 ?_
  refine retL [some 0, some 1, some 2] rfl trivial rfl rfl ?_
  exact mU

theorem wflag_ok (l : List UInt8) (b : Bool) (hl : l.length ≤ 800000) : CallT Tryz.prog 101 [.p 0 0, .u (.b b)] (wrC l)
  fun r σ => r = .tup [] ∧ σ = wrN ++ [.row 5 1 (bs (l ++ [if b then 1 else 0]))] := by
 have hn := wnum_ok l [if b then 1 else 0] (some 1) (by cases b <;> simp) (by simp; omega)
 have hv : vputs [if b then 1 else 0] = [if b then 1 else 0] := by
  cases b <;> simp [vputs, vput]
 rw [hv] at hn
 simp only [wrC, wrN, List.map_cons, List.map_nil, urow] at hn ⊢
 refine cof 10 [] Tryz.func101 Tryz.ntmps101 fun c hnt hc0 => ?_
 refine sq fun _ k1 => rgn 0 ?_
 repeat refine ⟨sd, ?_⟩
 refine k1 (sq fun _ k2 => sq fun _ k3 => rgn 0 ?_)
 repeat refine ⟨sd, ?_⟩
 refine k3 (cd rfl (fun h1 => ?_) (fun h1 => ?_))
 ·subst h1
  simp only [reduceIte, nl1] at hn
  refine rgn 0 ?_
  repeat refine ⟨sd, ?_⟩
  refine k2 (rgn 0 ?_)
  repeat refine ⟨sd, ?_⟩
  refine callT_atN [0, 1] [_, _] hn rfl rfl ⟨rfl, rfl, trivial⟩ mB mB rfl ?_
  refine fxl ?_
  refine evl ?_
  repeat refine ⟨sd, ?_⟩
  refine retL [some 0, some 1, some 2] rfl trivial rfl rfl ?_
  simp only [go_sem, and_true, true_and, implies_true, reduceIte, Nat.reduceEqDiff, Nat.reduceAdd, Nat.reduceLT, List.cons_append, List.nil_append, Bool.false_eq_true, reduceIte]
 ·subst h1
  simp only [Bool.false_eq_true, reduceIte, nl0] at hn
  refine wps_skip (k2 (rgn 0 ?_))
  repeat refine ⟨sd, ?_⟩
  refine callT_atN [0, 1] [_, _] hn rfl rfl ⟨rfl, rfl, trivial⟩ mB mB rfl ?_
  refine fxl ?_
  refine evl ?_
  repeat refine ⟨sd, ?_⟩
  refine retL [some 0, some 1, some 2] rfl trivial rfl rfl ?_
  simp only [go_sem, and_true, true_and, implies_true, reduceIte, Nat.reduceEqDiff, Nat.reduceAdd, Nat.reduceLT, List.cons_append, List.nil_append, Bool.false_eq_true, reduceIte]

theorem wbytes_ok (l : List UInt8) (hl : l.length ≤ 1000000) : CallT Tryz.prog 60 [.p 0 0] (wrC l) fun r σ => r = .tup [.u (.fz (bs l) none), .u (.i .i64 0)] ∧ σ = wrC l := by
 unfold wrC
 refine cof 19 [.tmp 2, .tmp 3] Tryz.func60 Tryz.ntmps60 fun c hnt hc0 => ?_
 refine sq fun _ k1 => rgn 0 ?_
 repeat refine ⟨sd, ?_⟩
 refine k1 (sq fun _ k2 => sq fun _ k3 => rgn 0 ?_)
 repeat refine ⟨sd, ?_⟩
 refine k3 (cd rfl (fun h1 => ?_) (fun h1 => ?_))
 ·exact absurd h1 (by simp)
 ·refine wps_skip (k2 (sq fun _ k4 => rgn 1 ?_))
  repeat refine ⟨sd, ?_⟩
  refine k4 ?_
  refine wps_ent (e' := [(2, .u (.fz (bs l) none)), (3, .u (.i .i64 0))]) (σ' := [.cells [.h 1, .u (.i .i64 0)], .row 5 1 (bs l)]) ((entF 2 rfl (e' := [(2, .u (.fz (bs l) none)), (3, .u (.i .i64 0))]) mB rfl).trans (entL hc0 [some 0, some 1] rfl rfl mB mB)) ?_
  refine wps_ret ?_
  refine retL [some 0, some 1] mA mO rfl rfl ?_
  exact mT

/-! ### a reader of fields -/
def rdC (l : List UInt8) : List SObj := [.cells [.u (.fz (bs l) none), .u (.i .i64 0)]]

theorem read_ok (l : List UInt8) (q : Option Nat) (hl : l.length ≤ 1000000) : CallT Tryz.prog 53 [.u (.fz (bs l) q)] [] fun r σ => r = .p 0 0 ∧ σ = [] ++ rdC l := by
 unfold rdC
 refine cof 8 [.tmp 2] Tryz.func53 Tryz.ntmps53 fun c hnt hc0 => ?_
 refine sq fun _ k1 => rgn 0 ?_
 repeat refine ⟨sd, ?_⟩
 refine k1 (sq fun _ k2 => rgn 2 ?_)
 repeat refine ⟨sd, ?_⟩
 refine k2 ?_
 refine wps_ent (e' := [(2, .p 0 0)]) (σ' := [.cells [.u (.fz (bs l) none), .u (.i .i64 0)]]) ((entF 0 rfl (e' := [(2, .p 1 0)]) mB rfl).trans (entL hc0 [some 1] rfl rfl mB mB)) ?_
 refine wps_ret ?_
 refine retL [some 0] rfl ⟨trivial, trivial⟩ rfl rfl ?_
 simp only [go_sem, and_true, true_and, implies_true, reduceIte, Nat.reduceEqDiff, Nat.reduceAdd, Nat.reduceLT, List.nil_append]

theorem rtake_ok (v : Nat) (rest : List UInt8) (hv : v < 18446744073709551616) (hl : rest.length ≤ 1000000) : CallT Tryz.prog 90 [.p 0 0] (rdC (vput v ++ rest)) fun r σ => r = .tup [.u (.i .u64 (v : Int)), .u (.fz (bs rest) none), .u (.b true)] ∧ σ = rdC (vput v ++ rest) := by
 have hg := getvar_ok v rest none hv hl
 unfold rdC
 refine cof 32 [.tmp 2, .tmp 3, .tmp 4] Tryz.func90 Tryz.ntmps90 fun c hnt hc0 => ?_
 refine sq fun _ k1 => rgn 0 ?_
 repeat refine ⟨sd, ?_⟩
 refine k1 (sq fun _ k2 => sq fun _ k3 => rgn 0 ?_)
 repeat refine ⟨sd, ?_⟩
 refine k3 (cd rfl (fun h1 => ?_) (fun h1 => ?_))
 ·exact absurd h1 (by simp)
 ·refine wps_skip (k2 (sq fun _ k4 => rgn 0 ?_))
  repeat refine ⟨sd, ?_⟩
  refine callT_at [] [] hg rfl rfl trivial mB mB rfl mR mR ?_
  refine evl ?_
  repeat refine ⟨sd, ?_⟩
  refine k4 (sq fun _ k5 => sq fun _ k6 => rgn 0 ?_)
  repeat refine ⟨sd, ?_⟩
  refine k6 (bk fun _ k7 => sq fun _ k8 => rgn 0 ?_)
  repeat refine ⟨sd, ?_⟩
  refine k8 (cd rfl (fun h2 => ?_) (fun h2 => ?_))
  ·refine sq fun _ k9 => rgn 0 ?_
   repeat refine ⟨sd, ?_⟩
   refine k9 (wps_ret ?_)
   refine retL [some 0] mA mO rfl rfl ?_
   exact mT
  ·exact absurd h2 (by simp)

theorem rbelow_ok (v : Nat) (rest : List UInt8) (most : Nat) (hm : v ≤ most) (hmo : most < 9223372036854775808) (hl : rest.length ≤ 1000000) : CallT Tryz.prog 118 [.p 0 0, .bm 90 [.p 0 0], .u (.i .i64 (most : Int))] (rdC (vput v ++ rest)) fun r σ => r = .tup [.u (.i .i64 (v : Int)), .u (.fz (bs rest) none), .u (.b true)] ∧ σ = rdC (vput v ++ rest) := by
 have hg := rtake_ok v rest (by omega) hl
 have hwu := wrapu_nat (n := most) (by omega)
 have hwi : IntKind.i64.wrap (v : Int) = v := wrap64 (by omega) (by omega)
 unfold rdC at hg ⊢
 refine cof 36 [.tmp 6, .tmp 7, .tmp 8] Tryz.func118 Tryz.ntmps118 fun c hnt hc0 => ?_
 refine sq fun _ k1 => rgn 0 ?_
 repeat refine ⟨sd, ?_⟩
 refine k1 (sq fun _ k2 => rgn 0 ?_)
 repeat refine ⟨sd, ?_⟩
 refine callT_at [0] [_] hg rfl rfl ⟨rfl, trivial⟩ mB mB rfl mR mR ?_
 refine evl ?_
 repeat refine ⟨sd, ?_⟩
 refine k2 (sq fun _ k3 => sq fun _ k4 => rg 0 ?_)
 refine evx hwu ?_
 repeat refine ⟨sd, ?_⟩
 refine k4 (cd rfl (fun h1 => ?_) (fun h1 => ?_))
 ·exact absurd h1 (by simp; omega)
 ·refine wps_skip (k3 (sq fun _ k5 => sq fun _ k6 => rgn 0 ?_))
  repeat refine ⟨sd, ?_⟩
  refine k6 (cd rfl (fun h2 => ?_) (fun h2 => ?_))
  ·exact absurd h2 (by simp)
  ·refine wps_skip (k5 (sq fun _ k7 => rg 0 ?_))
   refine evx hwi ?_
   repeat refine ⟨sd, ?_⟩
   refine k7 (wps_ret ?_)
   refine retL [some 0] mA mO rfl rfl ?_
   exact mT

theorem rnum_ok (v : Nat) (rest : List UInt8) (hv : v < 18446744073709551616) (hl : rest.length ≤ 1000000) : CallT Tryz.prog 54 [.p 0 0] (rdC (vput v ++ rest)) fun r σ => r = .u (.i .u64 (v : Int)) ∧ σ = rdC rest := by
 have hg := rtake_ok v rest hv hl
 unfold rdC at hg ⊢
 refine cof 18 [.tmp 2] Tryz.func54 Tryz.ntmps54 fun c hnt hc0 => ?_
 refine sq fun _ k1 => rgn 0 ?_
 repeat refine ⟨sd, ?_⟩
 refine k1 (sq fun _ k2 => rgn 0 ?_)
 repeat refine ⟨sd, ?_⟩
 refine callT_at [0] [_] hg rfl rfl ⟨rfl, trivial⟩ mB mB rfl mR mR ?_
 refine evl ?_
 repeat refine ⟨sd, ?_⟩
 refine k2 (sq fun _ k3 => sq fun _ k4 => rgn 0 ?_)
 repeat refine ⟨sd, ?_⟩
 refine k4 (cd rfl (fun h1 => ?_) (fun h1 => ?_))
 ·refine rgn 0 ?_
  repeat refine ⟨sd, ?_⟩
  refine k3 (sq fun _ k5 => rgn 0 ?_)
  repeat refine ⟨sd, ?_⟩
  refine k5 (wps_ret ?_)
  refine retL [some 0] rfl ⟨trivial, trivial⟩ rfl rfl ?_
  exact mT
 ·exact absurd h1 (by simp)

theorem rcount_ok (v : Nat) (rest : List UInt8) (most : Nat) (hm : v ≤ most) (hmo : most < 9223372036854775808) (hl : rest.length ≤ 1000000) : CallT Tryz.prog 77 [.p 0 0, .u (.i .i64 (most : Int))] (rdC (vput v ++ rest)) fun r σ => r = .u (.i .i64 (v : Int)) ∧ σ = rdC rest := by
 have hg := rbelow_ok v rest most hm hmo hl
 unfold rdC at hg ⊢
 refine cof 23 [.tmp 4] Tryz.func77 Tryz.ntmps77 fun c hnt hc0 => ?_
 refine sq fun _ k1 => rgn 0 ?_
 repeat refine ⟨sd, ?_⟩
 refine k1 (sq fun _ k2 => rgn 0 ?_)
 repeat refine ⟨sd, ?_⟩
 refine callT_at [0] [_] hg rfl rfl ⟨rfl, trivial⟩ mB mB rfl mR mR ?_
 refine evl ?_
 repeat refine ⟨sd, ?_⟩
 refine k2 (sq fun _ k3 => sq fun _ k4 => rgn 0 ?_)
 repeat refine ⟨sd, ?_⟩
 refine k4 (cd rfl (fun h1 => ?_) (fun h1 => ?_))
 ·refine rgn 0 ?_
  repeat refine ⟨sd, ?_⟩
  refine k3 (sq fun _ k5 => rgn 0 ?_)
  repeat refine ⟨sd, ?_⟩
  refine k5 (wps_ret ?_)
  refine retL [some 0] rfl ⟨trivial, trivial⟩ rfl rfl ?_
  exact mT
 ·exact absurd h1 (by simp)

theorem rtext_ok (s rest : List UInt8) (hs : s.length ≤ 65536) (hl : rest.length ≤ 900000) : CallT Tryz.prog 78 [.p 0 0] (rdC (tput s ++ rest)) fun r σ => r = .u (.s s) ∧ σ = rdC rest := by
 have hg := rbelow_ok s.length (s ++ rest) 65536 hs (by decide) (by simp; omega)
 rw [← List.append_assoc, show ((65536 : Nat) : Int) = 65536 from rfl] at hg
 have htk : (s ++ rest).take s.length = s := by simp
 have hdr : (s ++ rest).drop s.length = rest := by simp
 have hta : (bs (s ++ rest)).take (s.length + rest.length) = bs (s ++ rest) := by rw [← List.length_append, ← bs_len, List.take_length]
 unfold rdC tput at *
 refine cof 35 [.tmp 2] Tryz.func78 Tryz.ntmps78 fun c hnt hc0 => ?_
 refine sq fun _ k1 => rgn 0 ?_
 repeat refine ⟨sd, ?_⟩
 refine k1 (sq fun _ k2 => rgn 0 ?_)
 repeat refine ⟨sd, ?_⟩
 refine callT_at [0] [_] hg rfl rfl ⟨rfl, trivial⟩ mB mB rfl mR mR ?_
 refine evl ?_
 repeat refine ⟨sd, ?_⟩
 refine k2 (sq fun _ k3 => sq fun _ k4 => rgn 0 ?_)
 repeat refine ⟨sd, ?_⟩
 refine k4 (cd rfl (fun h1 => ?_) (fun h1 => ?_))
 ·exact absurd h1 (by simp; omega)
 ·refine wps_skip (k3 (sq fun _ k5 => sq fun _ k6 => rgn 0 ?_))
  repeat refine ⟨sd, ?_⟩
  refine k6 (cd rfl (fun h2 => ?_) (fun h2 => ?_))
  ·exact absurd h2 (by simp)
  ·refine wps_skip (k5 (sq fun _ k7 => rg 0 ?_))
   simp only [↓kOps_app, ↓evOps_nil, ↓evOps_cons, go_sem, Int.reduceAdd, Int.reduceBEq, Int.reduceEq, Int.reduceLE, Int.reduceLT, Int.reduceNe, Int.reduceSub, Int.reduceToNat, Nat.reduceAdd, Nat.reduceBEq, Nat.reduceEqDiff, Nat.reduceLT, Nat.reduceLeDiff, Nat.reduceMul, Nat.reduceSub, reduceCtorEq, reduceIte, List.length_append, hta, bs_drop, hdr]
   repeat refine ⟨sd, ?_⟩
   refine k7 (sq fun _ k8 => rg 0 ?_)
   refine evx2 @bs_take htk ?_
   repeat refine ⟨sd, ?_⟩
   refine k8 (wps_ret ?_)
   refine retL [some 0] rfl ⟨trivial, trivial⟩ rfl rfl ?_
   exact mT

theorem rend_ok : CallT Tryz.prog 55 [.p 0 0] (rdC []) fun r σ => r = .u (.i .i64 0) ∧ σ = rdC [] := by
 unfold rdC
 refine cof 20 [.tmp 2] Tryz.func55 Tryz.ntmps55 fun c hnt hc0 => ?_
 refine sq fun _ k1 => rgn 0 ?_
 repeat refine ⟨sd, ?_⟩
 refine k1 (sq fun _ k2 => sq fun _ k3 => rgn 0 ?_)
 repeat refine ⟨sd, ?_⟩
 refine k3 (cd rfl (fun h1 => ?_) (fun h1 => ?_))
 ·exact absurd h1 (by simp [bs])
 ·refine wps_skip (k2 (sq fun _ k4 => rgn 0 ?_))
  repeat refine ⟨sd, ?_⟩
  refine k4 (wps_ret ?_)
  refine retL [some 0] rfl ⟨trivial, trivial⟩ rfl rfl ?_
  exact mT

theorem rflag_ok (b : Bool) (rest : List UInt8) (hl : rest.length ≤ 900000) : CallT Tryz.prog 79 [.p 0 0] (rdC ((if b then 1 else 0) :: rest)) fun r σ => r = .u (.b b) ∧ σ = rdC rest := by
 have hel : (bs ((if b then 1 else 0) :: rest)).getD 0 [] = [.i .u8 (if b then 1 else 0)] := by cases b <;> rfl
 have hdr : (bs ((if b then 1 else 0) :: rest)).drop 1 = bs rest := rfl
 have hta : (bs ((if b then 1 else 0) :: rest)).take (rest.length + 1) = bs ((if b then 1 else 0) :: rest) := by
  rw [List.take_of_length_le]; simp [bs]
 unfold rdC
 refine cof 47 [.tmp 2] Tryz.func79 Tryz.ntmps79 fun c hnt hc0 => ?_
 refine sq fun _ k1 => rgn 1 ?_
 repeat refine ⟨sd, ?_⟩
 refine k1 (sq fun _ k2 => rgn 0 ?_)
 repeat refine ⟨sd, ?_⟩
 refine k2 (sq fun _ k3 => bk fun _ k4 => sq fun _ k5 => rgn 0 ?_)
 repeat refine ⟨sd, ?_⟩
 refine k5 (cd rfl (fun h1 => ?_) (fun h1 => ?_))
 ·exact absurd h1 (by simp)
 ·refine sq fun _ k6 => rgn 0 ?_
  repeat refine ⟨sd, ?_⟩
  refine k6 (cd rfl (fun h2 => ?_) (fun h2 => ?_))
  ·exact absurd h2 (by simp; omega)
  ·refine sq fun _ k7 => rg 0 ?_
   refine evx hel ?_
   repeat refine ⟨sd, ?_⟩
   refine k7 (cd rfl (fun h3 => ?_) (fun h3 => ?_))
   ·exact absurd h3 (by cases b <;> simp)
   ·refine wps_skip (k4 (k3 (sq fun _ k8 => rg 0 ?_)))
    refine evx hel ?_
    repeat refine ⟨sd, ?_⟩
    refine k8 (sq fun _ k9 => dr 0 [0, 0, 2, 6, 14, 30, 63, 127, 255] mixed ?_)
    refine evx2 hta hdr ?_
    repeat refine ⟨sd, ?_⟩
    refine k9 (sq fun _ k10 => rgn 0 ?_)
    repeat refine ⟨sd, ?_⟩
    refine k10 (wps_ret ?_)
    refine retL [some 0] rfl ⟨trivial, trivial⟩ rfl rfl ?_
    cases b <;> simp only [retSV, SV.mv, mvs, subL, List.map_nil, List.map_cons, SObj.mv, posOf, back, List.length_cons, List.length_nil, List.getElem?_cons_zero, List.getElem?_cons_succ, Option.map_some, Nat.reduceAdd, Nat.reduceLT, Nat.zero_add, Nat.lt_add_one, List.getD_cons_zero, List.getD_cons_succ, reduceIte, Nat.reduceEqDiff, Env.get, Env.put, and_true, true_and, implies_true] <;> rfl

/-! ### keys at timestamps -/
def esc1 (b : UInt8) : List UInt8 := if b = 0 then [0, 255] else [b]
def escS (k : List UInt8) : List UInt8 := k.flatMap esc1
def keyS (k : List UInt8) (t : Nat) : List UInt8 := escS k ++ [0, 1] ++ be8 (18446744073709551615 - t)
theorem esc_app (a : List UInt8) (b : UInt8) : escS (a ++ [b]) = escS a ++ esc1 b := by simp [escS]
theorem esc1_len (b : UInt8) : 1 ≤ (esc1 b).length ∧ (esc1 b).length ≤ 2 := by unfold esc1; split <;> simp
theorem esc_len : ∀ k : List UInt8, (escS k).length ≤ 2 * k.length
 | [] => by simp [escS]
 | b :: k => by
  have h1 := (esc1_len b).2
  have h2 := esc_len k
  unfold escS at h2 ⊢
  rw [List.flatMap_cons, List.length_append, List.length_cons]; omega

theorem notU {n : Nat} (h : n < 18446744073709551616) : bits .xor .u64 IntKind.u64.max (n : Int) = ((18446744073709551615 - n : Nat) : Int) := by
 unfold bits
 have e : BitVec.ofInt 64 IntKind.u64.max = BitVec.allOnes 64 := by decide +kernel
 have h3 : (BitVec.ofInt IntKind.u64.bits IntKind.u64.max ^^^ BitVec.ofInt IntKind.u64.bits ((n : Nat) : Int)).toNat = 18446744073709551615 - n := by
  show (BitVec.ofInt 64 IntKind.u64.max ^^^ BitVec.ofInt 64 ((n : Nat) : Int)).toNat = _
  rw [e, BitVec.ofInt_natCast, BitVec.allOnes_xor, BitVec.toNat_not, BitVec.toNat_ofNat, Nat.mod_eq_of_lt (by omega)]
 simp only [h3]
 exact wrapu_nat (by omega)

theorem kput1_ok (l x : List UInt8) (hl : l.length + x.length ≤ 1000000) : CallT Tryz.prog 93 [.u (.s x), .p 0 0] [.cells [.h 1], .row 5 1 (bs l)] fun r σ => r = .tup [] ∧ σ = [.cells [.h 2], .dead] ++ [.row 5 1 (bs (l ++ x))] := by
 refine cof 6 [] Tryz.func93 Tryz.ntmps93 fun c hnt hc0 => ?_
 refine rg 1 ?_
 refine evx @bs_app ?_
 repeat refine ⟨sd, ?_⟩
 refine retL [some 0, some 1, some 2] rfl trivial rfl rfl ?_
 exact mU

theorem keyput_ok (k : List UInt8) (t : Nat) (hk : k.length ≤ 64) (ht : t < 18446744073709551616) : CallT Tryz.prog 61 [.u (.s k), .u (.i .u64 (t : Int))] [] fun r σ => r = .tup [.h 0, .u (.i .i64 0)] ∧ σ = [] ++ [.row 5 1 (bs (keyS k t))] := by
 have hel := esc_len k
 have hnu := notU ht
 have hmk : IntKind.i64.wrap ((k.length : Int) + 10) = ((k.length + 10 : Nat) : Int) := by rw [wrap64 (by omega) (by omega)]; omega
 have hp1 := kput1_ok (escS k) [0, 1] (by simp; omega)
 have hp2 := nput8_ok (escS k ++ [0, 1]) none (18446744073709551615 - t) (by simp; omega) (by omega)
 refine cof 46 [.tmp 4, .tmp 5] Tryz.func61 Tryz.ntmps61 fun c hnt hc0 => ?_
 refine sq fun _ k1 => rgn 0 ?_
 repeat refine ⟨sd, ?_⟩
 refine k1 (sq fun _ k2 => sq fun _ k3 => rgn 0 ?_)
 repeat refine ⟨sd, ?_⟩
 refine k3 (cd rfl (fun h1 => ?_) (fun h1 => ?_))
 ·exact absurd h1 (by simp; omega)
 ·refine wps_skip (k2 (sq fun _ k4 => rg 2 ?_))
  refine evx hmk ?_
  repeat refine ⟨sd, ?_⟩
  refine k4 (sq fun _ k5 => rgn 0 ?_)
  repeat refine ⟨sd, ?_⟩
  refine k5 (sq fun _ k6 => sq fun _ k7 => rgn 0 ?_)
  repeat refine ⟨sd, ?_⟩
  refine k7 (bk fun _ k8 => ?_)
  refine wps_loop (fun kk e σ => ∃ i : Nat, kk = k.length - i ∧ i ≤ k.length ∧ e = [(0, .u (.s k)), (1, .u (.i .u64 (t : Int))), (6, .p 0 0), (7, .fn 93 [.p 0 0]), (18, .u (.i .i64 (k.length : Int))), (19, .u (.i .i64 (i : Int)))] ∧ σ = [.cells [.h 1], .row 5 1 (bs (escS (k.take i)))])
   (e0 := [(0, .u (.s k)), (1, .u (.i .u64 (t : Int))), (6, .p 0 0), (7, .fn 93 [.p 0 0]), (18, .u (.i .i64 (k.length : Int))), (19, .u (.i .i64 0))]) (σ0 := [.cells [.h 1], .row 5 1 []]) (entL hc0 [some 1, some 0] rfl rfl mB mB) ⟨0, rfl, Nat.zero_le _, rfl, by simp [escS, bs]⟩ fun KL kk e1 σ1 hI hKL => ?_
  obtain ⟨i, rfl, hi, rfl, rfl⟩ := hI
  refine sq fun _ k9 => rgn 0 ?_
  repeat refine ⟨sd, ?_⟩
  refine k9 (sq fun _ k10 => cd rfl (fun h2 => ?_) (fun h2 => ?_))
  ·simp at h2
   have hw1 := wi1 i
   have hts := btake_succ h2
   have hea := esc_app (k.take i) (k.getD i 0)
   rw [← hts] at hea
   have hcut : (k.take (i + 1)).drop i = [k.getD i 0] := by rw [hts, List.drop_left' (by simp; omega)]
   have hll := esc_len (k.take i)
   have hlt : (k.take i).length = i := by simp; omega
   have hq0 := kput1_ok (escS (k.take i)) [0, 255] (by simp; omega)
   have hq1 := kput1_ok (escS (k.take i)) [k.getD i 0] (by simp; omega)
   refine wps_skip (k10 (sq fun _ k11 => bk fun _ k12 => sq fun _ k13 => rgn 0 ?_))
   repeat refine ⟨sd, ?_⟩
   refine k13 (sq fun _ k14 => sq fun _ k15 => rgn 0 ?_)
   repeat refine ⟨sd, ?_⟩
   refine k15 (cd rfl (fun h3 => ?_) (fun h3 => ?_))
   ·refine sq fun _ k16 => rgn 0 ?_
    repeat refine ⟨sd, ?_⟩
    refine callT_atN [0, 1] [_, _] hq0 rfl rfl ⟨rfl, rfl, trivial⟩ mB mB rfl ?_
    refine fxl ?_
    refine evl ?_
    repeat refine ⟨sd, ?_⟩
    refine k16 ?_
    refine wps_exit ?_
    simp only [reduceIte, Nat.reduceEqDiff]
    refine k12 (k11 (rg 0 ?_))
    refine evx hw1 ?_
    repeat refine ⟨sd, ?_⟩
    have hz : k.getD i 0 = 0 := by
     have : (k.getD i 0).toNat = 0 := by simpa using h3
     exact UInt8.toNat_inj.1 this
    rw [hz, esc1, if_pos rfl] at hea
    exact hKL _ _ (k.length - (i + 1)) _ [.cells [.h 1], .row 5 1 (bs (escS (k.take (i + 1))))] (entL hc0 [some 0, some 2] rfl rfl mB (by rw [hea]; simp only [go_sem, reduceIte, Nat.reduceEqDiff, Nat.reduceAdd, Nat.reduceLT])) ⟨i + 1, rfl, by omega, rfl, rfl⟩ (by omega)
   ·refine wps_skip (k14 (rg 0 ?_))
    refine evx2 hw1 hcut ?_
    repeat refine ⟨sd, ?_⟩
    refine callT_atN [0, 1] [_, _] hq1 rfl rfl ⟨rfl, rfl, trivial⟩ mB mB rfl ?_
    refine fxl ?_
    refine evx2 hw1 hcut ?_
    repeat refine ⟨sd, ?_⟩
    refine k12 (k11 (rg 0 ?_))
    refine evx hw1 ?_
    repeat refine ⟨sd, ?_⟩
    have hz : ¬ k.getD i 0 = 0 := by
     intro h
     rw [h] at h3
     simp at h3
    rw [esc1, if_neg hz] at hea
    exact hKL _ _ (k.length - (i + 1)) _ [.cells [.h 1], .row 5 1 (bs (escS (k.take (i + 1))))] (entL hc0 [some 0, some 2] rfl rfl mB (by rw [hea]; simp only [go_sem, reduceIte, Nat.reduceEqDiff, Nat.reduceAdd, Nat.reduceLT])) ⟨i + 1, rfl, by omega, rfl, rfl⟩ (by omega)
  ·have hil : i = k.length := by simp at h2; omega
   subst hil
   rw [List.take_length]
   refine wps_exit ?_
   simp only [reduceIte, Nat.reduceEqDiff]
   refine k8 (k6 (sq fun _ k17 => rgn 0 ?_))
   repeat refine ⟨sd, ?_⟩
   refine callT_atN [0, 1] [_, _] hp1 rfl rfl ⟨rfl, rfl, trivial⟩ mB mB rfl ?_
   refine fxl ?_
   refine evl ?_
   repeat refine ⟨sd, ?_⟩
   refine k17 (sq fun _ k18 => rg 0 ?_)
   refine evx hnu ?_
   repeat refine ⟨sd, ?_⟩
   refine callT_frz 2 rfl ?_
   simp only [go_sem, reduceIte, Nat.reduceEqDiff]
   refine callT_new hp2 mB ?_
   refine rtl ?_
   refine evx hnu ?_
   repeat refine ⟨sd, ?_⟩
   refine k18 (sq fun _ k19 => rgn 0 ?_)
   repeat refine ⟨sd, ?_⟩
   refine k19 (wps_ret ?_)
   refine retL [some 3] mA mO rfl rfl ?_
   simp only [go_sem, and_true, true_and, implies_true, reduceIte, Nat.reduceEqDiff, Nat.reduceAdd, Nat.reduceLT, List.nil_append, keyS, List.append_assoc, List.cons_append]

@[go_sem] theorem toArr_some (x : Operand) : (some x).toArray.toList = [x] := rfl
@[go_sem] theorem toArr_none : (none : Option Operand).toArray.toList = [] := rfl
theorem esc_cons (b : UInt8) (k : List UInt8) : escS (b :: k) = esc1 b ++ escS k := by simp [escS]
theorem key_len (k : List UInt8) (t : Nat) : (keyS k t).length = (escS k).length + 10 := by simp [keyS, be8_len]

theorem keyget_ok (k : List UInt8) (t : Nat) (q : Option Nat) (hk : k.length ≤ 64) (ht : t < 18446744073709551616) : CallT Tryz.prog 91 [.u (.fz (bs (keyS k t)) q)] [] fun r σ => r = .tup [.u (.s k), .u (.i .u64 (t : Int)), .u (.i .i64 0)] ∧ σ = [] := by
 have hel := esc_len k
 obtain ⟨n, hn⟩ : ∃ n, (escS k).length = n := ⟨_, rfl⟩
 have hkl := key_len k t
 rw [hn] at hkl hel
 obtain ⟨K, hK⟩ : ∃ K, keyS k t = K := ⟨_, rfl⟩
 rw [hK] at hkl ⊢
 have hKd : K = escS k ++ [0, 1] ++ be8 (18446744073709551615 - t) := hK.symm
 have hs2 : (K.take (n + 2)).drop n = [0, 1] := by
  rw [hKd, List.take_left' (by simp [hn]), List.drop_left' hn]
 have hs8 : (K.take (n + 10)).drop (n + 2) = be8 (18446744073709551615 - t) := by
  rw [List.take_of_length_le (by omega), hKd, List.drop_left' (by simp [hn])]
 have hsn : K.take n = escS k := by rw [hKd, List.append_assoc, List.take_left' hn]
 have hg := nget_ok (be8 (18446744073709551615 - t)) (Option.map (fun x => x - (n + 2)) q) 8 (by decide) (by decide) (by rw [be8_len]; decide) (by rw [be8_len]; decide)
 rw [show (be8 (18446744073709551615 - t)).take 8 = be8 (18446744073709551615 - t) from rfl, unbe_be8 (by omega)] at hg
 have hw10 : IntKind.i64.wrap (((n + 10 : Nat) : Int) - 10) = (n : Int) := by rw [wrap64 (by omega) (by omega)]; omega
 have hw2 : IntKind.i64.wrap ((n : Int) + 2) = ((n + 2 : Nat) : Int) := by rw [wrap64 (by omega) (by omega)]; omega
 have hneg : decide ((n : Int) < 0) = false := by simp
 have hnu := notU (n := 18446744073709551615 - t) (by omega)
 rw [show 18446744073709551615 - (18446744073709551615 - t) = t by omega] at hnu
 refine cof 73 [.tmp 2, .tmp 3, .tmp 4] Tryz.func91 Tryz.ntmps91 fun c hnt hc0 => ?_
 refine sq fun _ k1 => rgn 0 ?_
 repeat refine ⟨sd, ?_⟩
 refine k1 (sq fun _ k2 => rg 0 ?_)
 refine evx2 hkl hw10 ?_
 repeat refine ⟨sd, ?_⟩
 refine k2 (sq fun _ k3 => sq fun _ k4 => rg 0 ?_)
 simp only [↓kOps_app, ↓evOps_nil, ↓evOps_cons, go_sem, Int.reduceAdd, Int.reduceBEq, Int.reduceEq, Int.reduceLE, Int.reduceLT, Int.reduceNe, Int.reduceSub, Int.reduceToNat, Nat.reduceAdd, Nat.reduceBEq, Nat.reduceEqDiff, Nat.reduceLT, Nat.reduceLeDiff, Nat.reduceMul, Nat.reduceSub, reduceCtorEq, reduceIte, hneg, hw2, bs_take, bs_drop, hs2, hkl]
 repeat refine ⟨sd, ?_⟩
 refine k4 (cd rfl (fun h1 => ?_) (fun h1 => ?_))
 ·exact absurd h1 (by simp)
 ·refine wps_skip (k3 (sq fun _ k5 => rg 0 ?_))
  refine evx5 hw2 @bs_take @bs_drop hkl hs8 ?_
  repeat refine ⟨sd, ?_⟩
  refine callT_at [] [] hg rfl rfl trivial mB mB rfl mR mR ?_
  refine evx5 hw2 @bs_take @bs_drop hkl hs8 ?_
  repeat refine ⟨sd, ?_⟩
  refine k5 (sq fun _ k6 => ?_)
  refine wps_keep [0, 5, 6] mK ?_
  refine rgn 0 ?_
  repeat refine ⟨sd, ?_⟩
  refine k6 (sq fun _ k7 => sq fun _ k8 => rg 0 ?_)
  refine evx3 @bs_take hsn hkl ?_
  repeat refine ⟨sd, ?_⟩
  refine k8 (bk fun _ k9 => ?_)
  refine wps_loop (fun kk e σ => ∃ (i : Nat) (c : Option Nat), kk = k.length - i ∧ i ≤ k.length ∧ e = [(6, .u (.i .u64 ((18446744073709551615 - t : Nat) : Int))), (9, .h 0), (10, .u (.fz (bs (escS (k.drop i))) c))] ∧ σ = [.row 5 1 (bs (k.take i))])
   (e0 := [(6, .u (.i .u64 ((18446744073709551615 - t : Nat) : Int))), (9, .h 0), (10, .u (.fz (bs (escS k)) (some n)))]) (σ0 := [.row 5 1 []]) ((ent_thaw (t := 9) 5 1 rfl).trans (entL hc0 [some 0] rfl rfl mB (by simp only [retSV, SV.mv, mvs, subL, List.map_nil, List.map_cons, SObj.mv, posOf, back, List.length_cons, List.length_nil, List.getElem?_cons_zero, List.getElem?_cons_succ, Option.map_some, Nat.reduceAdd, Nat.reduceLT, Nat.zero_add, Nat.lt_add_one, List.getD_cons_zero, List.getD_cons_succ, reduceIte, Nat.reduceEqDiff, Env.get, Env.put, and_true, true_and, implies_true, List.cons_append, List.nil_append]))) ⟨0, some n, rfl, Nat.zero_le _, rfl, rfl⟩ fun KL kk e1 σ1 hI hKL => ?_
  obtain ⟨i, c, rfl, hi, rfl, rfl⟩ := hI
  refine sq fun _ k10 => sq fun _ k11 => rgn 0 ?_
  repeat refine ⟨sd, ?_⟩
  refine k11 (cd rfl (fun h2 => ?_) (fun h2 => ?_))
  ·simp at h2
   have hik : i < k.length := by
    rcases Nat.lt_or_ge i k.length with h | h
    ·exact h
    ·rw [List.drop_eq_nil_of_le h] at h2; simp [escS] at h2
   obtain ⟨b, hb⟩ : ∃ b, k.getD i 0 = b := ⟨_, rfl⟩
   have hts := btake_succ hik
   have hdr := bdrop_at hik
   rw [hb] at hts hdr
   have hes : escS (k.drop i) = esc1 b ++ escS (k.drop (i + 1)) := by rw [hdr, esc_cons]
   obtain ⟨R, hR⟩ : ∃ R, escS (k.drop (i + 1)) = R := ⟨_, rfl⟩
   rw [hR] at hes
   have hRl : R.length ≤ 128 := by
    have := esc_len (k.drop (i + 1))
    rw [hR, List.length_drop] at this; omega
   have hapk : k.take i ++ [b] = k.take (i + 1) := hts.symm
   refine wps_skip (k10 (bk fun _ k12 => sq fun _ k13 => ?_))
   by_cases hz : b = 0
   ·rw [hz, esc1, if_pos rfl, List.cons_append, List.cons_append, List.nil_append] at hes
    rw [hes]
    have g0 : (bs (0 :: 255 :: R)).getD 0 [] = [.i .u8 0] := rfl
    have g1 : (bs (0 :: 255 :: R)).getD 1 [] = [.i .u8 255] := rfl
    have gd : (0 :: 255 :: R).drop 2 = R := rfl
    have gt : (0 :: 255 :: R).take (R.length + 2) = 0 :: 255 :: R := by rw [List.take_of_length_le]; simp
    have gl : (0 :: 255 :: R).length = R.length + 2 := by simp
    rw [hz] at hapk
    have h0 : [[PV.i .u8 0]] = bs [0] := rfl
    refine rg 1 ?_
    refine evx5 g0 gl h0 @bs_app hapk ?_
    repeat refine ⟨sd, ?_⟩
    refine k13 (bk fun _ k14 => sq fun _ k15 => rg 0 ?_)
    refine evx2 g0 gl ?_
    repeat refine ⟨sd, ?_⟩
    refine k15 (cd rfl (fun h3 => ?_) (fun h3 => ?_))
    ·exact absurd h3 (by simp)
    ·refine sq fun _ k16 => rg 0 ?_
     refine evx2 g1 gl ?_
     repeat refine ⟨sd, ?_⟩
     refine k16 (cd rfl (fun h4 => ?_) (fun h4 => ?_))
     ·refine wps_keep [6, 9, 10] mK ?_
      refine rg 0 ?_
      refine evx5 gl @bs_take @bs_drop gt gd ?_
      repeat refine ⟨sd, ?_⟩
      refine k14 (k12 ?_)
      subst hR
      exact hKL _ _ (k.length - (i + 1)) [(6, .u (.i .u64 ((18446744073709551615 - t : Nat) : Int))), (9, .h 0), (10, .u (.fz (bs (escS (k.drop (i + 1)))) (Option.map (fun x => x - 2) c)))] _ (entL hc0 [some 1] rfl rfl mB mB) ⟨i + 1, _, rfl, by omega, rfl, rfl⟩ (by omega)
     ·exact absurd h4 (by simp; omega)
   ·rw [esc1, if_neg hz, List.cons_append, List.nil_append] at hes
    rw [hes]
    have g0 : (bs (b :: R)).getD 0 [] = [.i .u8 (b.toNat : Int)] := rfl
    have gd : (b :: R).drop 1 = R := rfl
    have gt : (b :: R).take (R.length + 1) = b :: R := by rw [List.take_of_length_le]; simp
    have gl : (b :: R).length = R.length + 1 := by simp
    have hbn : ¬ b.toNat = 0 := fun h => hz (UInt8.toNat_inj.1 h)
    refine rg 1 ?_
    refine evx5 g0 gl @bs_one @bs_app hapk ?_
    repeat refine ⟨sd, ?_⟩
    refine k13 (bk fun _ k17 => sq fun _ k18 => rg 0 ?_)
    refine evx2 g0 gl ?_
    repeat refine ⟨sd, ?_⟩
    refine k18 (cd rfl (fun h3 => ?_) (fun h3 => ?_))
    ·refine rg 0 ?_
     refine evx5 gl @bs_take @bs_drop gt gd ?_
     repeat refine ⟨sd, ?_⟩
     refine k17 (k12 ?_)
     subst hR
     exact hKL _ _ (k.length - (i + 1)) [(6, .u (.i .u64 ((18446744073709551615 - t : Nat) : Int))), (9, .h 0), (10, .u (.fz (bs (escS (k.drop (i + 1)))) (Option.map (fun x => x - 1) c)))] _ (entL hc0 [some 1] rfl rfl mB mB) ⟨i + 1, _, rfl, by omega, rfl, rfl⟩ (by omega)
    ·exact absurd h3 (by simp; omega)
  ·have hil : i = k.length := by
    rcases Nat.lt_or_ge i k.length with h | h
    ·exfalso
     have h3 : (escS (k.drop i)).length = 0 := by
      have := h2
      simp only [decide_eq_false_iff_not] at this
      omega
     rw [bdrop_at h, esc_cons, List.length_append] at h3
     have := (esc1_len (k.getD i 0)).1
     omega
    ·omega
   subst hil
   rw [List.take_length]
   refine wps_exit ?_
   simp only [reduceIte, Nat.reduceEqDiff]
   refine k9 (k7 (sq fun _ k19 => sq fun _ k20 => rgn 0 ?_))
   repeat refine ⟨sd, ?_⟩
   refine k20 (cd rfl (fun h5 => ?_) (fun h5 => ?_))
   ·exact absurd h5 (by simp; omega)
   ·refine wps_skip (k19 (sq fun _ k21 => rg 0 ?_))
    refine evx hnu ?_
    repeat refine ⟨sd, ?_⟩
    refine k21 (wps_ret ?_)
    refine retL [] mA mO rfl rfl ?_
    exact mT
end Go.Proofs.YtefipnajpabfgaaGreatDoor
