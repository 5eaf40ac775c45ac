/- Part 16 of the proof: what functions of the program do, and plain facts on what they compute. -/
import Derived.Test.YtefipnajpabfgaaGreatDoorP15
set_option linter.all false
set_option maxRecDepth 40000
set_option maxHeartbeats 16000000
set_option linter.unusedSimpArgs false
set_option linter.unusedVariables false
namespace Go.Proofs.YtefipnajpabfgaaGreatDoor
open Go.Nm

/-! ### batches and the judge -/

def writeErr (k v : List UInt8) (g : Bool) : Int := if k == [] || decide (64 < (k.length : Int)) then 52 else if decide (256 < (v.length : Int)) || (g && !(v == [])) then 53 else 0

theorem write_ok (k v : List UInt8) (g : Bool) : CallT Tryz.prog 57 [.agg [.u (.s k), .u (.s v), .u (.b g)]] [] fun r σ => r = .u (.i .i64 (writeErr k v g)) ∧ σ = [] := by
 refine cof 27 [.tmp 2] Tryz.func57 Tryz.ntmps57 fun c hnt hc0 => ?_
 refine sq fun _ k1 => rgn 1 ?_
 repeat refine ⟨sd, ?_⟩
 refine k1 (sq fun _ k2 => bk fun _ k3 => sq fun _ k4 => rgn 0 ?_)
 repeat refine ⟨sd, ?_⟩
 refine k4 (cd rfl (fun h1 => ?_) (fun h1 => ?_))
 ·refine sq fun _ k5 => rgn 0 ?_
  repeat refine ⟨sd, ?_⟩
  refine k5 (wps_ret ?_)
  refine retL [] rfl ⟨trivial, trivial⟩ rfl rfl ?_
  simp only [go_sem, and_true, true_and, implies_true, reduceIte, Nat.reduceEqDiff, Nat.reduceAdd, Nat.reduceLT, writeErr, h1]
 ·refine sq fun _ k6 => rgn 0 ?_
  repeat refine ⟨sd, ?_⟩
  refine k6 (cd rfl (fun h2 => ?_) (fun h2 => ?_))
  ·refine sq fun _ k7 => rgn 0 ?_
   repeat refine ⟨sd, ?_⟩
   refine k7 (wps_ret ?_)
   refine retL [] rfl ⟨trivial, trivial⟩ rfl rfl ?_
   simp only [go_sem, and_true, true_and, implies_true, reduceIte, Nat.reduceEqDiff, Nat.reduceAdd, Nat.reduceLT, writeErr, h1, h2]
   try rfl
  ·refine wps_skip (k3 (k2 (sq fun _ k8 => rgn 0 ?_)))
   repeat refine ⟨sd, ?_⟩
   refine k8 (wps_ret ?_)
   refine retL [] rfl ⟨trivial, trivial⟩ rfl rfl ?_
   simp only [go_sem, and_true, true_and, implies_true, reduceIte, Nat.reduceEqDiff, Nat.reduceAdd, Nat.reduceLT, writeErr, h1, h2]
   try rfl


abbrev Wt := List UInt8 × List UInt8 × Bool
def wrow (w : Wt) : List PV := [.s w.1, .s w.2.1, .b w.2.2]
def wat (ws : List Wt) (i : Nat) : Wt := ws.getD i ([], [], false)
def bcells (c r s : Int) (ws : List Wt) (q : Option Nat) : List SV := [.u (.i .u64 c), .u (.i .u64 r), .u (.i .u64 s), .u (.fz (ws.map wrow) q)]

theorem wrow_at {ws : List Wt} {i : Nat} (h : i < ws.length) : (ws.map wrow).getD i [] = [.s (wat ws i).1, .s (wat ws i).2.1, .b (wat ws i).2.2] := by
 rw [List.getD_eq_getElem?_getD, List.getElem?_map, List.getElem?_eq_getElem h, wat, List.getD_eq_getElem?_getD, List.getElem?_eq_getElem h]; rfl

/-- the first thing that is wrong with the writes from i on -/
def chkI (ws : List Wt) : Nat → Nat → Int
 | 0, _ => 0
 | n + 1, i => if writeErr (wat ws i).1 (wat ws i).2.1 (wat ws i).2.2 != 0 then writeErr (wat ws i).1 (wat ws i).2.1 (wat ws i).2.2
  else if decide (0 < (i : Int)) && !Op.bytesLess (wat ws (i - 1)).1 (wat ws i).1 then 54 else chkI ws n (i + 1)
def chk (ws : List Wt) : Int := if ws.length = 0 then 50 else if 8 < ws.length then 51 else chkI ws ws.length 0

theorem check_ok (cl r s : Int) (ws : List Wt) (q : Option Nat) : CallT Tryz.prog 25 [.agg (bcells cl r s ws q)] [] fun r σ => r = .u (.i .i64 (chk ws)) ∧ σ = [] := by
 unfold bcells
 refine cof 44 [.tmp 2] Tryz.func25 Tryz.ntmps25 fun c hnt hc0 => ?_
 refine sq fun _ k1 => rgn 1 ?_
 repeat refine ⟨sd, ?_⟩
 refine k1 (sq fun _ k2 => bk fun _ k3 => sq fun _ k4 => rgn 0 ?_)
 repeat refine ⟨sd, ?_⟩
 refine k4 (cd rfl (fun h1 => ?_) (fun h1 => ?_))
 ·refine sq fun _ k5 => rgn 0 ?_
  repeat refine ⟨sd, ?_⟩
  refine k5 (wps_ret ?_)
  refine retL [] rfl ⟨trivial, trivial⟩ rfl rfl ?_
  simp only [go_sem, and_true, true_and, implies_true, reduceIte, Nat.reduceEqDiff, Nat.reduceAdd, Nat.reduceLT, chk]
  rw [if_pos (by simpa using h1)]
 ·refine sq fun _ k6 => rgn 0 ?_
  repeat refine ⟨sd, ?_⟩
  refine k6 (cd rfl (fun h2 => ?_) (fun h2 => ?_))
  ·refine sq fun _ k7 => rgn 0 ?_
   repeat refine ⟨sd, ?_⟩
   refine k7 (wps_ret ?_)
   refine retL [] rfl ⟨trivial, trivial⟩ rfl rfl ?_
   simp only [go_sem, and_true, true_and, implies_true, reduceIte, Nat.reduceEqDiff, Nat.reduceAdd, Nat.reduceLT, chk]
   rw [if_neg (by simpa using h1), if_pos (by simp at h2; omega)]
  ·refine wps_skip (k3 (k2 (sq fun _ k8 => sq fun _ k9 => rgn 0 ?_)))
   repeat refine ⟨sd, ?_⟩
   refine k9 (bk fun _ k10 => ?_)
   have hl : 0 < ws.length := by
    simp at h1; exact List.length_pos_iff.2 h1
   simp at h2
   refine wps_loop (fun k e σ => ∃ i : Nat, k = ws.length - i ∧ i ≤ ws.length ∧ chkI ws (ws.length - i) i = chkI ws ws.length 0 ∧ e = [(1, .p 0 0), (17, .u (.fz (ws.map wrow) q)), (18, .u (.i .i64 ws.length)), (19, .u (.i .i64 i))] ∧ σ = [.cells [.u (.i .u64 cl), .u (.i .u64 r), .u (.i .u64 s), .u (.fz (ws.map wrow) q)]])
    (e0 := [(1, .p 0 0), (17, .u (.fz (ws.map wrow) q)), (18, .u (.i .i64 ws.length)), (19, .u (.i .i64 0))]) (σ0 := [.cells [.u (.i .u64 cl), .u (.i .u64 r), .u (.i .u64 s), .u (.fz (ws.map wrow) q)]])
    (entL hc0 [some 0] rfl rfl (by simp only [retSV, SV.mv, mvs, subL, List.map_nil, List.map_cons, SObj.mv, posOf, back, List.length_cons, List.length_nil, List.getElem?_cons_zero, List.getElem?_cons_succ, Option.map_some, Nat.reduceAdd, Nat.reduceLT, Nat.zero_add, Nat.lt_add_one, List.getD_cons_zero, List.getD_cons_succ, reduceIte, Nat.reduceEqDiff, Env.get, Env.put, and_true, true_and, implies_true]) (by simp only [retSV, SV.mv, mvs, subL, List.map_nil, List.map_cons, SObj.mv, posOf, back, List.length_cons, List.length_nil, List.getElem?_cons_zero, List.getElem?_cons_succ, Option.map_some, Nat.reduceAdd, Nat.reduceLT, Nat.zero_add, Nat.lt_add_one, List.getD_cons_zero, List.getD_cons_succ, reduceIte, Nat.reduceEqDiff, Env.get, Env.put, and_true, true_and, implies_true])) ⟨0, rfl, Nat.zero_le _, rfl, rfl, rfl⟩ fun KL k e1 σ1 hI hKL => ?_
   obtain ⟨i, rfl, hi, hch, rfl, rfl⟩ := hI
   refine sq fun _ k11 => rgn 0 ?_
   repeat refine ⟨sd, ?_⟩
   refine k11 (sq fun _ k12 => cd rfl (fun h3 => ?_) (fun h3 => ?_))
   ·simp at h3
    have hel := wrow_at h3
    have hel' := wrow_at (ws := ws) (i := i - 1) (by omega)
    have hwr : IntKind.i64.wrap ((i : Int) - 1) = (i : Int) - 1 := wrap64 (by omega) (by omega)
    have ht : ((i : Int) - 1).toNat = i - 1 := by omega
    have hw1 := wi1 i
    have hst : ws.length - i = (ws.length - (i + 1)) + 1 := by omega
    rw [hst, chkI] at hch
    refine wps_skip (k12 (sq fun _ k13 => bk fun _ k14 => sq fun _ k15 => rg 1 ?_))
    refine evx hel ?_
    repeat refine ⟨sd, ?_⟩
    refine k15 (sq fun _ k16 => sq fun _ k17 => rgn 0 ?_)
    repeat refine ⟨sd, ?_⟩
    refine callT_at [] [] (write_ok (wat ws i).1 (wat ws i).2.1 (wat ws i).2.2) rfl rfl trivial mB mB rfl mR mR ?_
    refine evl ?_
    repeat refine ⟨sd, ?_⟩
    refine k17 (sq fun _ k18 => rgn 0 ?_)
    repeat refine ⟨sd, ?_⟩
    refine k18 (cd rfl (fun h4 => ?_) (fun h4 => ?_))
    ·refine sq fun _ k19 => rgn 0 ?_
     repeat refine ⟨sd, ?_⟩
     refine k19 (wps_ret ?_)
     refine retL [] rfl ⟨trivial, trivial⟩ rfl rfl ?_
     rw [if_pos h4] at hch
     simp only [go_sem, and_true, true_and, implies_true, reduceIte, Nat.reduceEqDiff, Nat.reduceAdd, Nat.reduceLT, chk]
     rw [if_neg (by omega), if_neg (by omega), hch]
    ·refine wps_skip (k16 (sq fun _ k20 => dr 0 [0, 1, 3, 7, 15, 7, 39, 127, 255, 511, 7, 1031, 4095, 8191] mixed ?_))
     refine evx3 hel' hwr ht ?_
     repeat refine ⟨sd, ?_⟩
     refine k20 (cd rfl (fun h5 => ?_) (fun h5 => ?_))
     ·refine sq fun _ k21 => rgn 0 ?_
      repeat refine ⟨sd, ?_⟩
      refine k21 (wps_ret ?_)
      refine retL [] rfl ⟨trivial, trivial⟩ rfl rfl ?_
      rw [if_neg (by rw [h4]; decide), if_pos h5] at hch
      simp only [go_sem, and_true, true_and, implies_true, reduceIte, Nat.reduceEqDiff, Nat.reduceAdd, Nat.reduceLT, chk]
      rw [if_neg (by omega), if_neg (by omega), hch]
     ·refine wps_skip (k14 (k13 (rg 0 ?_)))
      refine evx hw1 ?_
      repeat refine ⟨sd, ?_⟩
      rw [if_neg (by rw [h4]; decide), if_neg (by rw [h5]; decide)] at hch
      refine hKL _ _ (ws.length - (i + 1)) _ _ (entL hc0 [some 0] rfl rfl (by simp only [retSV, SV.mv, mvs, subL, List.map_nil, List.map_cons, SObj.mv, posOf, back, List.length_cons, List.length_nil, List.getElem?_cons_zero, List.getElem?_cons_succ, Option.map_some, Nat.reduceAdd, Nat.reduceLT, Nat.zero_add, Nat.lt_add_one, List.getD_cons_zero, List.getD_cons_succ, reduceIte, Nat.reduceEqDiff, Env.get, Env.put, and_true, true_and, implies_true]) (by simp only [retSV, SV.mv, mvs, subL, List.map_nil, List.map_cons, SObj.mv, posOf, back, List.length_cons, List.length_nil, List.getElem?_cons_zero, List.getElem?_cons_succ, Option.map_some, Nat.reduceAdd, Nat.reduceLT, Nat.zero_add, Nat.lt_add_one, List.getD_cons_zero, List.getD_cons_succ, reduceIte, Nat.reduceEqDiff, Env.get, Env.put, and_true, true_and, implies_true])) ⟨i + 1, rfl, by omega, hch, rfl, rfl⟩ (by omega)
   ·refine wps_exit ?_
    simp only [reduceIte, Nat.reduceEqDiff]
    refine k10 (k8 (sq fun _ k22 => rgn 0 ?_))
    repeat refine ⟨sd, ?_⟩
    refine k22 (wps_ret ?_)
    refine retL [] rfl ⟨trivial, trivial⟩ rfl rfl ?_
    simp at h3
    have : ws.length - i = 0 := by omega
    rw [this, chkI] at hch
    simp only [go_sem, and_true, true_and, implies_true, reduceIte, Nat.reduceEqDiff, Nat.reduceAdd, Nat.reduceLT, chk]
    rw [if_neg (by omega), if_neg (by omega), hch]


/-! ### the two maps of a judge, as lists -/
def aget {α β : Type} [BEq α] (k : α) : List (α × β) → Option β
 | [] => none
 | e :: es => if k == e.1 then some e.2 else aget k es
def aput {α β : Type} [BEq α] (k : α) (x : β) : List (α × β) → List (α × β)
 | [] => [(k, x)]
 | e :: es => if k == e.1 then (k, x) :: es else e :: aput k x es

def kent (p : List UInt8 × Int) : PV × PV := (.s p.1, .i .u64 p.2)
def tent (p : Int × Int × Int × Int) : PV × PV := (.i .u64 p.1, .agg [.i .u64 p.2.1, .i .u64 p.2.2.1, .i .i64 p.2.2.2])

theorem kfind (k : List UInt8) : ∀ ks : List (List UInt8 × Int), findPV (.s k) (ks.map kent) = (aget k ks).map fun n => .i .u64 n
 | [] => rfl
 | e :: es => by
  simp only [List.map_cons, findPV, kent, keyEq, aget, Option.some.injEq]
  by_cases h : (k == e.1) = true
  ·rw [if_pos h, if_pos h]; rfl
  ·rw [if_neg h, if_neg h]; exact kfind k es
theorem kput (k : List UInt8) (n : Int) : ∀ ks : List (List UInt8 × Int), updPV (.s k) (.i .u64 n) (ks.map kent) = (aput k n ks).map kent
 | [] => rfl
 | e :: es => by
  simp only [List.map_cons, updPV, kent, keyEq, aput, Option.some.injEq]
  by_cases h : (k == e.1) = true
  ·rw [if_pos h, if_pos h]; rfl
  ·rw [if_neg h, if_neg h, List.map_cons]; rw [kput k n es]; rfl
theorem kkeys (k : List UInt8) (ks : List (List UInt8 × Int)) : keysOK (.s k) (ks.map kent) := by
 intro e he
 obtain ⟨p, _, rfl⟩ := List.mem_map.1 he
 rfl

theorem tfind (k : Int) : ∀ ts : List (Int × Int × Int × Int), findPV (.i .u64 k) (ts.map tent) = (aget k ts).map fun p => .agg [.i .u64 p.1, .i .u64 p.2.1, .i .i64 p.2.2]
 | [] => rfl
 | e :: es => by
  simp only [List.map_cons, findPV, tent, keyEq, if_true, aget, Option.some.injEq]
  by_cases h : (k == e.1) = true
  ·rw [if_pos h, if_pos h]; rfl
  ·rw [if_neg h, if_neg h]; exact tfind k es
theorem jtput (k a b c : Int) : ∀ ts : List (Int × Int × Int × Int), updPV (.i .u64 k) (.agg [.i .u64 a, .i .u64 b, .i .i64 c]) (ts.map tent) = (aput k (a, b, c) ts).map tent
 | [] => rfl
 | e :: es => by
  simp only [List.map_cons, updPV, tent, keyEq, if_true, aput, Option.some.injEq]
  by_cases h : (k == e.1) = true
  ·rw [if_pos h, if_pos h]; rfl
  ·rw [if_neg h, if_neg h, List.map_cons]; rw [jtput k a b c es]; rfl
theorem tkeys (k : Int) (ts : List (Int × Int × Int × Int)) : keysOK (.i .u64 k) (ts.map tent) := by
 intro e he
 obtain ⟨p, _, rfl⟩ := List.mem_map.1 he
 rfl

def getK (ks : List (List UInt8 × Int)) (k : List UInt8) : Int := (aget k ks).getD 0
theorem kgot (k : List UInt8) (ks : List (List UInt8 × Int)) : (findPV (.s k) (ks.map kent)).getD (.i .u64 0) = .i .u64 (getK ks k) := by
 rw [kfind, getK]
 cases aget k ks <;> rfl
def getT (ts : List (Int × Int × Int × Int)) (k : Int) : Int × Int × Int := (aget k ts).getD (0, 0, 0)
def inT (ts : List (Int × Int × Int × Int)) (k : Int) : Bool := (aget k ts).isSome
theorem tgot (k : Int) (ts : List (Int × Int × Int × Int)) : (findPV (.i .u64 k) (ts.map tent)).getD (.agg [.i .u64 0, .i .u64 0, .i .i64 0]) = .agg [.i .u64 (getT ts k).1, .i .u64 (getT ts k).2.1, .i .i64 (getT ts k).2.2] := by
 rw [tfind, getT]
 cases aget k ts <;> rfl
theorem tin (k : Int) (ts : List (Int × Int × Int × Int)) : (findPV (.i .u64 k) (ts.map tent)).isSome = inT ts k := by
 rw [tfind, inT]
 cases aget k ts <;> rfl

/-- a judge in memory -/
def jcells (last : Int) : List SV := [.u (.i .u64 last), .h 1, .h 2]

theorem new_ok (n : Int) : CallT Tryz.prog 6 [.u (.i .u64 n)] [] fun r σ => r = .p 0 0 ∧ σ = [.cells (jcells n), .map [], .map []] := by
 refine cof 8 [.tmp 2] Tryz.func6 Tryz.ntmps6 fun c hnt hc0 => ?_
 refine sq fun _ k1 => rgn 0 ?_
 repeat refine ⟨sd, ?_⟩
 refine k1 (sq fun _ k2 => rgn 3 ?_)
 repeat refine ⟨sd, ?_⟩
 refine k2 (wps_ret ?_)
 refine retL [some 2, some 0, some 1] rfl ⟨trivial, trivial⟩ rfl rfl ?_
 simp only [go_sem, and_true, true_and, implies_true, reduceIte, Nat.reduceEqDiff, Nat.reduceAdd, Nat.reduceLT, jcells]

theorem last_ok (n : Int) (a b : List (PV × PV)) : CallT Tryz.prog 10 [.p 0 0] [.cells (jcells n), .map a, .map b] fun r σ => r = .u (.i .u64 n) ∧ σ = [.cells (jcells n), .map a, .map b] := by
 unfold jcells
 refine cof 7 [.tmp 2] Tryz.func10 Tryz.ntmps10 fun c hnt hc0 => ?_
 refine sq fun _ k1 => rgn 0 ?_
 repeat refine ⟨sd, ?_⟩
 refine k1 (sq fun _ k2 => rgn 0 ?_)
 repeat refine ⟨sd, ?_⟩
 refine k2 (wps_ret ?_)
 refine retL [some 0, some 1, some 2] rfl ⟨trivial, trivial⟩ rfl rfl ?_
 exact mT

/-- is one of the keys written behind s -/
def wrI (ks : List (List UInt8 × Int)) (ws : List Wt) (s : Int) : Nat → Nat → Bool
 | 0, _ => false
 | n + 1, i => if decide (s < getK ks (wat ws i).1) then true else wrI ks ws s n (i + 1)

theorem written_ok (last cl r s : Int) (ws : List Wt) (q : Option Nat) (ks : List (List UInt8 × Int)) (b : List (PV × PV)) (hws : ws.length ≤ 8) :
  CallT Tryz.prog 29 [.p 0 0, .agg (bcells cl r s ws q)] [.cells (jcells last), .map (ks.map kent), .map b] fun r σ => r = .u (.b (wrI ks ws s ws.length 0)) ∧ σ = [.cells (jcells last), .map (ks.map kent), .map b] := by
 unfold jcells bcells
 refine cof 25 [.tmp 4] Tryz.func29 Tryz.ntmps29 fun c hnt hc0 => ?_
 refine sq fun _ k1 => rgn 1 ?_
 repeat refine ⟨sd, ?_⟩
 refine k1 (sq fun _ k2 => sq fun _ k3 => rgn 0 ?_)
 repeat refine ⟨sd, ?_⟩
 refine k3 (bk fun _ k4 => ?_)
 refine wps_loop (fun k e σ => ∃ i : Nat, k = ws.length - i ∧ i ≤ ws.length ∧ wrI ks ws s (ws.length - i) i = wrI ks ws s ws.length 0 ∧ e = [(0, .p 0 0), (3, .p 3 0), (8, .u (.fz (ws.map wrow) q)), (9, .u (.i .i64 ws.length)), (10, .u (.i .i64 i))] ∧ σ = [.cells [.u (.i .u64 last), .h 1, .h 2], .map (ks.map kent), .map b, .cells [.u (.i .u64 cl), .u (.i .u64 r), .u (.i .u64 s), .u (.fz (ws.map wrow) q)]])
  (e0 := [(0, .p 0 0), (3, .p 3 0), (8, .u (.fz (ws.map wrow) q)), (9, .u (.i .i64 ws.length)), (10, .u (.i .i64 0))]) (σ0 := [.cells [.u (.i .u64 last), .h 1, .h 2], .map (ks.map kent), .map b, .cells [.u (.i .u64 cl), .u (.i .u64 r), .u (.i .u64 s), .u (.fz (ws.map wrow) q)]])
  (entL hc0 [some 0, some 1, some 2, some 3] rfl rfl mB mB) ⟨0, rfl, Nat.zero_le _, rfl, rfl, rfl⟩ fun KL k e1 σ1 hI hKL => ?_
 obtain ⟨i, rfl, hi, hch, rfl, rfl⟩ := hI
 refine sq fun _ k5 => rgn 0 ?_
 repeat refine ⟨sd, ?_⟩
 refine k5 (sq fun _ k6 => cd rfl (fun h1 => ?_) (fun h1 => ?_))
 ·simp at h1
  have hel := wrow_at h1
  have hw1 := wi1 i
  have hst : ws.length - i = (ws.length - (i + 1)) + 1 := by omega
  rw [hst, wrI] at hch
  refine wps_skip (k6 (sq fun _ k7 => bk fun _ k8 => sq fun _ k9 => rg 1 ?_))
  refine evx hel ?_
  repeat refine ⟨sd, ?_⟩
  refine k9 (sq fun _ k10 => dr 0 [0, 1, 3, 7, 0, 16, 63, 0, 128, 511] mixed ?_)
  refine evx2 @kkeys @kgot ?_
  repeat refine ⟨sd, ?_⟩
  refine k10 (cd rfl (fun h2 => ?_) (fun h2 => ?_))
  ·refine sq fun _ k11 => rgn 0 ?_
   repeat refine ⟨sd, ?_⟩
   refine k11 (wps_ret ?_)
   refine retL [some 0, some 1, some 2] rfl ⟨trivial, trivial⟩ rfl rfl ?_
   rw [if_pos h2] at hch
   simp only [go_sem, and_true, true_and, implies_true, reduceIte, Nat.reduceEqDiff, Nat.reduceAdd, Nat.reduceLT, hch]
  ·refine wps_skip (k8 (k7 (rg 0 ?_)))
   refine evx hw1 ?_
   repeat refine ⟨sd, ?_⟩
   rw [if_neg (by rw [h2]; decide)] at hch
   refine hKL _ _ (ws.length - (i + 1)) _ _ (entL hc0 [some 0, some 1, some 2, some 3] rfl rfl mB mB) ⟨i + 1, rfl, by omega, hch, rfl, rfl⟩ (by omega)
 ·refine wps_exit ?_
  simp only [reduceIte, Nat.reduceEqDiff]
  refine k4 (k2 (sq fun _ k12 => rgn 0 ?_))
  repeat refine ⟨sd, ?_⟩
  refine k12 (wps_ret ?_)
  refine retL [some 0, some 1, some 2] rfl ⟨trivial, trivial⟩ rfl rfl ?_
  simp at h1
  have : ws.length - i = 0 := by omega
  rw [this, wrI] at hch
  simp only [go_sem, and_true, true_and, implies_true, reduceIte, Nat.reduceEqDiff, Nat.reduceAdd, Nat.reduceLT, hch]

/-- the keys, with what a commit writes -/
def cmI (ws : List Wt) (n : Int) : Nat → Nat → List (List UInt8 × Int) → List (List UInt8 × Int)
 | 0, _, ks => ks
 | f + 1, i, ks => cmI ws n f (i + 1) (aput (wat ws i).1 n ks)

theorem commit_ok (last cl r s : Int) (ws : List Wt) (q : Option Nat) (ks : List (List UInt8 × Int)) (b : List (PV × PV)) (hws : ws.length ≤ 8) (h0 : 0 ≤ last) (hl : last < 9223372036854775807) :
  CallT Tryz.prog 30 [.p 0 0, .agg (bcells cl r s ws q)] [.cells (jcells last), .map (ks.map kent), .map b] fun r σ => r = .u (.i .u64 (last + 1)) ∧ σ = [.cells (jcells (last + 1)), .map ((cmI ws (last + 1) ws.length 0 ks).map kent), .map b] := by
 unfold jcells bcells
 have hwl : IntKind.u64.wrap (last + 1) = last + 1 := wrapu64 (by omega) (by omega)
 refine cof 36 [.tmp 4] Tryz.func30 Tryz.ntmps30 fun c hnt hc0 => ?_
 refine sq fun _ k1 => rgn 1 ?_
 repeat refine ⟨sd, ?_⟩
 refine k1 (sq fun _ k2 => rg 0 ?_)
 refine evx hwl ?_
 repeat refine ⟨sd, ?_⟩
 refine k2 (sq fun _ k3 => sq fun _ k4 => rgn 0 ?_)
 repeat refine ⟨sd, ?_⟩
 refine k4 (bk fun _ k5 => ?_)
 refine wps_loop (fun k e σ => ∃ (i : Nat) (ks' : List (List UInt8 × Int)), k = ws.length - i ∧ i ≤ ws.length ∧ cmI ws (last + 1) (ws.length - i) i ks' = cmI ws (last + 1) ws.length 0 ks ∧ e = [(0, .p 0 0), (3, .p 3 0), (15, .u (.fz (ws.map wrow) q)), (16, .u (.i .i64 ws.length)), (17, .u (.i .i64 i))] ∧ σ = [.cells [.u (.i .u64 (last + 1)), .h 1, .h 2], .map (ks'.map kent), .map b, .cells [.u (.i .u64 cl), .u (.i .u64 r), .u (.i .u64 s), .u (.fz (ws.map wrow) q)]])
  (e0 := [(0, .p 0 0), (3, .p 3 0), (15, .u (.fz (ws.map wrow) q)), (16, .u (.i .i64 ws.length)), (17, .u (.i .i64 0))]) (σ0 := [.cells [.u (.i .u64 (last + 1)), .h 1, .h 2], .map (ks.map kent), .map b, .cells [.u (.i .u64 cl), .u (.i .u64 r), .u (.i .u64 s), .u (.fz (ws.map wrow) q)]])
  (entL hc0 [some 0, some 1, some 2, some 3] rfl rfl mB mB) ⟨0, ks, rfl, Nat.zero_le _, rfl, rfl, rfl⟩ fun KL k e1 σ1 hI hKL => ?_
 obtain ⟨i, ks', rfl, hi, hch, rfl, rfl⟩ := hI
 refine sq fun _ k6 => rgn 0 ?_
 repeat refine ⟨sd, ?_⟩
 refine k6 (sq fun _ k7 => cd rfl (fun h1 => ?_) (fun h1 => ?_))
 ·simp at h1
  have hel := wrow_at h1
  have hw1 := wi1 i
  have hst : ws.length - i = (ws.length - (i + 1)) + 1 := by omega
  rw [hst, cmI] at hch
  refine wps_skip (k7 (sq fun _ k8 => bk fun _ k9 => sq fun _ k10 => rg 1 ?_))
  refine evx hel ?_
  repeat refine ⟨sd, ?_⟩
  refine k10 (dr 0 [0, 1, 3, 7, 0, 16, 0, 64, 192, 448, 1023] mixed ?_)
  refine evx2 @kkeys @kput ?_
  repeat refine ⟨sd, ?_⟩
  refine k9 (k8 (rg 0 ?_))
  refine evx hw1 ?_
  repeat refine ⟨sd, ?_⟩
  refine hKL _ _ (ws.length - (i + 1)) _ _ (entL hc0 [some 0, some 1, some 2, some 3] rfl rfl mB mB) ⟨i + 1, _, rfl, by omega, hch, rfl, rfl⟩ (by omega)
 ·refine wps_exit ?_
  simp only [reduceIte, Nat.reduceEqDiff]
  refine k5 (k3 (sq fun _ k11 => rgn 0 ?_))
  repeat refine ⟨sd, ?_⟩
  refine k11 (wps_ret ?_)
  refine retL [some 0, some 1, some 2] rfl ⟨trivial, trivial⟩ rfl rfl ?_
  simp at h1
  have : ws.length - i = 0 := by omega
  rw [this, cmI] at hch
  simp only [go_sem, and_true, true_and, implies_true, reduceIte, Nat.reduceEqDiff, Nat.reduceAdd, Nat.reduceLT, hch]

/-! ### the three questions -/
theorem q1_ok (ok : Bool) (cl r s a b e : Int) (w : PV) : CallT Tryz.prog 26 [.p 0 0, .p 1 0, .p 2 0] [.cells [.u (.b ok)], .cells [.u (.i .u64 cl), .u (.i .u64 r), .u (.i .u64 s), .u w], .cells [.u (.i .u64 a), .u (.i .u64 b), .u (.i .i64 e)]]
  fun x σ => x = .u (.b (ok && decide (r < a))) ∧ σ = [.cells [.u (.b ok)], .cells [.u (.i .u64 cl), .u (.i .u64 r), .u (.i .u64 s), .u w], .cells [.u (.i .u64 a), .u (.i .u64 b), .u (.i .i64 e)]] := by
 refine cof 12 [.tmp 3] Tryz.func26 Tryz.ntmps26 fun c hnt hc0 => ?_
 refine sq fun _ k1 => rgn 0 ?_
 repeat refine ⟨sd, ?_⟩
 refine k1 (sq fun _ k2 => rgn 0 ?_)
 repeat refine ⟨sd, ?_⟩
 refine k2 (wps_ret ?_)
 refine retL [some 0, some 1, some 2] rfl ⟨trivial, trivial⟩ rfl rfl ?_
 exact mT

theorem q2_ok (last cl r s : Int) (w : PV) (a b : List (PV × PV)) : CallT Tryz.prog 27 [.p 3 0, .p 4 0] [.cells (jcells last), .map a, .map b, .cells [.u (.i .u64 cl), .u (.i .u64 r), .u (.i .u64 s), .u w], .cells [.p 0 0]]
  fun x σ => x = .u (.b (decide (last < s))) ∧ σ = [.cells (jcells last), .map a, .map b, .cells [.u (.i .u64 cl), .u (.i .u64 r), .u (.i .u64 s), .u w], .cells [.p 0 0]] := by
 unfold jcells
 refine cof 10 [.tmp 2] Tryz.func27 Tryz.ntmps27 fun c hnt hc0 => ?_
 refine sq fun _ k1 => rgn 0 ?_
 repeat refine ⟨sd, ?_⟩
 refine k1 (sq fun _ k2 => dr 0 [0, 1, 0, 4, 12, 28, 63, 127] mixed ?_)
 refine evl ?_
 repeat refine ⟨sd, ?_⟩
 refine k2 (wps_ret ?_)
 refine retL [some 0, some 1, some 2, some 3, some 4] rfl ⟨trivial, trivial⟩ rfl rfl ?_
 exact mT

theorem q3_ok (last : Int) (a b : List (PV × PV)) : CallT Tryz.prog 28 [.p 3 0] [.cells (jcells last), .map a, .map b, .cells [.p 0 0]]
  fun x σ => x = .u (.b (decide (9223372036854775807 ≤ last))) ∧ σ = [.cells (jcells last), .map a, .map b, .cells [.p 0 0]] := by
 unfold jcells
 refine cof 7 [.tmp 1] Tryz.func28 Tryz.ntmps28 fun c hnt hc0 => ?_
 refine sq fun _ k1 => rgn 0 ?_
 repeat refine ⟨sd, ?_⟩
 refine k1 (sq fun _ k2 => rgn 0 ?_)
 repeat refine ⟨sd, ?_⟩
 refine k2 (wps_ret ?_)
 refine retL [some 0, some 1, some 2, some 3] rfl ⟨trivial, trivial⟩ rfl rfl ?_
 exact mT


theorem chk_len {ws : List Wt} (h : chk ws = 0) : ws.length ≤ 8 := by
 unfold chk at h
 split at h
 ·cases h
 ·split at h
  ·cases h
  ·omega

/-- what a judge is: the number of its last decision, the keys, what it told -/
structure Jd where
 last : Int
 ks : List (List UInt8 × Int)
 ts : List (Int × Int × Int × Int)

def Jd.obs (J : Jd) : List SObj := [.cells (jcells J.last), .map (J.ks.map kent), .map (J.ts.map tent)]

/-- what is said to a batch, and the judge behind it -/
def sayS (J : Jd) (cl r s : Int) (ws : List Wt) : (Int × Int) × Jd :=
 if chk ws != 0 then ((0, chk ws), J)
 else if inT J.ts cl && (getT J.ts cl).1 == r then ((getT J.ts cl).2, J)
 else if inT J.ts cl && decide (r < (getT J.ts cl).1) then ((0, 193), J)
 else if decide (J.last < s) then ((0, 190), J)
 else if decide (9223372036854775807 ≤ J.last) then ((0, 192), J)
 else if wrI J.ks ws s ws.length 0 then ((0, 191), ⟨J.last, J.ks, aput cl (r, 0, 191) J.ts⟩)
 else ((J.last + 1, 0), ⟨J.last + 1, cmI ws (J.last + 1) ws.length 0 J.ks, aput cl (r, J.last + 1, 0) J.ts⟩)

theorem say_ok (J : Jd) (cl r s : Int) (ws : List Wt) (q : Option Nat) (h0 : 0 ≤ J.last) :
  CallT Tryz.prog 9 [.p 0 0, .agg (bcells cl r s ws q)] J.obs fun x σ => x = .agg [.u (.i .u64 (sayS J cl r s ws).1.1), .u (.i .i64 (sayS J cl r s ws).1.2)] ∧ σ = (sayS J cl r s ws).2.obs := by
 obtain ⟨last, ks, ts⟩ := J
 simp only at h0
 unfold Jd.obs jcells bcells sayS
 simp only
 have hck := check_ok cl r s ws q
 have hq2 := q2_ok last cl r s (.fz (ws.map wrow) q) (ks.map kent) (ts.map tent)
 have hq3 := q3_ok last (ks.map kent) (ts.map tent)
 unfold bcells at hck
 unfold jcells at hq2 hq3
 have w1 : IntKind.i64.wrap 1 = 1 := rfl
 have w2 : IntKind.i64.wrap 2 = 2 := rfl
 have w3 : IntKind.i64.wrap 3 = 3 := rfl
 refine cof 74 [.cell 4 38] Tryz.func9 Tryz.ntmps9 fun c hnt hc0 => ?_
 refine sq fun _ k1 => rgn 3 ?_
 repeat refine ⟨sd, ?_⟩
 refine k1 (sq fun _ k2 => sq fun _ k3 => rgn 0 ?_)
 repeat refine ⟨sd, ?_⟩
 refine callT_at [] [] hck rfl rfl trivial mB mB rfl mR mR ?_
 refine evl ?_
 repeat refine ⟨sd, ?_⟩
 refine k3 (sq fun _ k4 => rgn 0 ?_)
 repeat refine ⟨sd, ?_⟩
 refine k4 (cd rfl (fun h1 => ?_) (fun h1 => ?_))
 ·refine sq fun _ k5 => rgn 0 ?_
  repeat refine ⟨sd, ?_⟩
  refine k5 (wps_ret ?_)
  refine retL [some 0, some 1, some 2] mA mO rfl rfl ?_
  simp only [go_sem, and_true, true_and, implies_true, reduceIte, Nat.reduceEqDiff, Nat.reduceAdd, Nat.reduceLT, h1, Bool.false_eq_true, reduceIte, jcells, Jd.obs]
 ·have hlen := chk_len (ws := ws) (by simpa using h1)
  refine wps_skip (k2 (sq fun _ k6 => dr 2 [0, 1, 3, 7, 0, 16, 63, 127, 255, 255, 0, 0, 3583, 8191] mixed ?_))
  refine evx3 @tkeys @tgot @tin ?_
  repeat refine ⟨sd, ?_⟩
  refine k6 (sq fun _ k7 => sq fun _ k8 => rgn 0 ?_)
  repeat refine ⟨sd, ?_⟩
  refine k8 (cd rfl (fun h2 => ?_) (fun h2 => ?_))
  ·refine sq fun _ k9 => rgn 0 ?_
   repeat refine ⟨sd, ?_⟩
   refine k9 (wps_ret ?_)
   refine retL [some 0, some 1, some 2] mA mO rfl rfl ?_
   simp only [go_sem, and_true, true_and, implies_true, reduceIte, Nat.reduceEqDiff, Nat.reduceAdd, Nat.reduceLT, h1, h2, Bool.false_eq_true, reduceIte, jcells, Jd.obs]
  ·refine wps_skip (k7 (sq fun _ k10 => sq fun _ k11 => rgn 0 ?_))
   repeat refine ⟨sd, ?_⟩
   refine k11 (bk fun _ k12 => wps_loopU ?_)
   refine wpl_round fun K13 hK13 => sq fun _ k14 => rgn 0 ?_
   repeat refine ⟨sd, ?_⟩
   refine k14 (sq fun _ k15 => cd rfl (fun h3 => ?_) (fun h3 => ?_))
   ·refine wps_skip (k15 (sq fun _ k16 => bk fun _ k17 => sq fun _ k18 => rgn 1 ?_))
    repeat refine ⟨sd, ?_⟩
    refine k18 (sq fun _ k19 => rgn 0 ?_)
    repeat refine ⟨sd, ?_⟩
    refine callT_at [7, 4, 6] [_, _, _] (q1_ok (inT ts cl) cl r s (getT ts cl).1 (getT ts cl).2.1 (getT ts cl).2.2 (.fz (ws.map wrow) q)) rfl rfl ⟨rfl, rfl, rfl, trivial⟩ mB mB rfl mR mR ?_
    refine evl ?_
    repeat refine ⟨sd, ?_⟩
    refine k19 (cd rfl (fun h4 => ?_) (fun h4 => ?_))
    ·refine sq fun _ k20 => rgn 0 ?_
     repeat refine ⟨sd, ?_⟩
     refine k20 (wps_ret ?_)
     refine retL [some 0, some 1, some 2] mA mO rfl rfl ?_
     simp only [go_sem, and_true, true_and, implies_true, reduceIte, Nat.reduceEqDiff, Nat.reduceAdd, Nat.reduceLT, h1, h2, h4, Bool.false_eq_true, reduceIte, jcells, Jd.obs]
    ·refine wps_skip (k17 (k16 (rg 0 ?_)))
     refine evx3 w1 w2 w3 ?_
     repeat refine ⟨sd, ?_⟩
     refine hK13 _ _ ?_
     refine wpl_round fun K21 hK21 => sq fun _ k22 => rgn 0 ?_
     repeat refine ⟨sd, ?_⟩
     refine k22 (sq fun _ k23 => cd rfl (fun h5 => ?_) (fun h5 => ?_))
     ·refine wps_skip (k23 (sq fun _ k24 => bk fun _ k25 => sq fun _ k26 => rgn 1 ?_))
      repeat refine ⟨sd, ?_⟩
      refine k26 (sq fun _ k27 => rgn 0 ?_)
      repeat refine ⟨sd, ?_⟩
      refine callT_at [0, 1, 2, 4, 3] [_, _, _, _, _] hq2 rfl rfl ⟨rfl, rfl, rfl, rfl, rfl, trivial⟩ mB mB rfl mR mR ?_
      refine evl ?_
      repeat refine ⟨sd, ?_⟩
      refine k27 (cd rfl (fun h6 => ?_) (fun h6 => ?_))
      ·refine sq fun _ k28 => rgn 0 ?_
       repeat refine ⟨sd, ?_⟩
       refine k28 (wps_ret ?_)
       refine retL [some 0, some 1, some 2] mA mO rfl rfl ?_
       simp only [go_sem, and_true, true_and, implies_true, reduceIte, Nat.reduceEqDiff, Nat.reduceAdd, Nat.reduceLT, h1, h2, h4, h6, Bool.false_eq_true, reduceIte, jcells, Jd.obs]
      ·refine wps_skip (k25 (k24 (rg 0 ?_)))
       refine evx3 w1 w2 w3 ?_
       repeat refine ⟨sd, ?_⟩
       refine hK21 _ _ ?_
       refine wpl_round fun K29 hK29 => sq fun _ k30 => rgn 0 ?_
       repeat refine ⟨sd, ?_⟩
       refine k30 (sq fun _ k31 => cd rfl (fun h7 => ?_) (fun h7 => ?_))
       ·refine wps_skip (k31 (sq fun _ k32 => bk fun _ k33 => sq fun _ k34 => rgn 1 ?_))
        repeat refine ⟨sd, ?_⟩
        refine k34 (sq fun _ k35 => rgn 0 ?_)
        repeat refine ⟨sd, ?_⟩
        refine callT_at [0, 1, 2, 3] [_, _, _, _] hq3 rfl rfl ⟨rfl, rfl, rfl, rfl, trivial⟩ mB mB rfl mR mR ?_
        refine evl ?_
        repeat refine ⟨sd, ?_⟩
        refine k35 (cd rfl (fun h8 => ?_) (fun h8 => ?_))
        ·refine sq fun _ k36 => rgn 0 ?_
         repeat refine ⟨sd, ?_⟩
         refine k36 (wps_ret ?_)
         refine retL [some 0, some 1, some 2] mA mO rfl rfl ?_
         simp only [go_sem, and_true, true_and, implies_true, reduceIte, Nat.reduceEqDiff, Nat.reduceAdd, Nat.reduceLT, h1, h2, h4, h6, h8, Bool.false_eq_true, reduceIte, jcells, Jd.obs]
        ·refine wps_skip (k33 (k32 (rg 0 ?_)))
         refine evx3 w1 w2 w3 ?_
         repeat refine ⟨sd, ?_⟩
         refine hK29 _ _ ?_
         refine wpl_round fun K37 hK37 => sq fun _ k38 => rgn 0 ?_
         repeat refine ⟨sd, ?_⟩
         refine k38 (sq fun _ k39 => cd rfl (fun h9 => ?_) (fun h9 => ?_))
         ·exact absurd h9 (by simp)
         ·refine wps_exit ?_
          simp only [reduceIte, Nat.reduceEqDiff]
          refine k12 (k10 (sq fun _ k40 => rgn 1 ?_))
          repeat refine ⟨sd, ?_⟩
          have hlast : last < 9223372036854775807 := by simpa using h8
          have hwr := written_ok last cl r s ws q ks (ts.map tent) hlen
          have hcm := commit_ok last cl r s ws q ks (ts.map tent) hlen h0 hlast
          unfold bcells jcells at hwr hcm
          refine k40 (sq fun _ k41 => sq fun _ k42 => rgn 0 ?_)
          repeat refine ⟨sd, ?_⟩
          refine callT_at [0, 1, 2] [_, _, _] hwr rfl rfl ⟨rfl, rfl, rfl, trivial⟩ mB mB rfl mR mR ?_
          refine evl ?_
          repeat refine ⟨sd, ?_⟩
          refine k42 (cd rfl (fun h10 => ?_) (fun h10 => ?_))
          ·refine rgn 0 ?_
           repeat refine ⟨sd, ?_⟩
           refine callT_at [0, 1, 2] [_, _, _] hcm rfl rfl ⟨rfl, rfl, rfl, trivial⟩ mB mB rfl mR mR ?_
           refine evl ?_
           repeat refine ⟨sd, ?_⟩
           refine k41 (sq fun _ k43 => dr 0 [0, 1, 3, 7, 0, 16, 0, 64, 0, 448, 1023] mixed ?_)
           refine evx2 @tkeys @jtput ?_
           repeat refine ⟨sd, ?_⟩
           refine k43 (sq fun _ k44 => rgn 0 ?_)
           repeat refine ⟨sd, ?_⟩
           refine k44 (wps_ret ?_)
           refine retL [some 0, some 1, some 2] mA mO rfl rfl ?_
           have h10' : wrI ks ws s ws.length 0 = false := by simpa using h10
           simp only [go_sem, and_true, true_and, implies_true, reduceIte, Nat.reduceEqDiff, Nat.reduceAdd, Nat.reduceLT, h1, h2, h4, h6, h8, h10', Bool.false_eq_true, reduceIte, jcells, Jd.obs]
          ·refine wps_skip (k41 (sq fun _ k45 => dr 0 [0, 1, 3, 7, 0, 16, 0, 64, 0, 448, 1023] mixed ?_))
           refine evx2 @tkeys @jtput ?_
           repeat refine ⟨sd, ?_⟩
           refine k45 (sq fun _ k46 => rgn 0 ?_)
           repeat refine ⟨sd, ?_⟩
           refine k46 (wps_ret ?_)
           refine retL [some 0, some 1, some 2] mA mO rfl rfl ?_
           have h10' : wrI ks ws s ws.length 0 = true := by simpa using h10
           simp only [go_sem, and_true, true_and, implies_true, reduceIte, Nat.reduceEqDiff, Nat.reduceAdd, Nat.reduceLT, h1, h2, h4, h6, h8, h10', Bool.false_eq_true, reduceIte, jcells, Jd.obs]
       ·exact absurd h7 (by simp)
     ·exact absurd h5 (by simp)
   ·exact absurd h3 (by simp)
end Go.Proofs.YtefipnajpabfgaaGreatDoor
