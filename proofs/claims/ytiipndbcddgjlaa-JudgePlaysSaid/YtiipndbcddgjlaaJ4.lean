import Derived.Test.YtiipndbcddgjlaaJ3
set_option linter.all false
set_option linter.unusedSimpArgs false
set_option linter.unusedVariables false
namespace Go.Proofs.Ytiipndbcddgjlaa
open Go.Nm

/-! ### the two maps of a judge, as lists -/
def aget {α β : Type} [BEq α] (k : α) : List (α × β) → Option β
  | [] => none
  | e :: es => if k == e.1 then some e.2 else aget k es
def aput {α β : Type} [BEq α] (k : α) (x : β) : List (α × β) → List (α × β)
  | [] => [(k, x)]
  | e :: es => if k == e.1 then (k, x) :: es else e :: aput k x es

def kent (p : List UInt8 × Int) : PV × PV := (.s p.1, .i .u64 p.2)
def tent (p : Int × Int × Int × Int) : PV × PV := (.i .u64 p.1, .agg [.i .u64 p.2.1, .i .u64 p.2.2.1, .i .i64 p.2.2.2])

theorem kfind (k : List UInt8) : ∀ ks : List (List UInt8 × Int), findPV (.s k) (ks.map kent) = (aget k ks).map fun n => .i .u64 n
  | [] => rfl
  | e :: es => by
    simp only [List.map_cons, findPV, kent, keyEq, aget, Option.some.injEq]
    by_cases h : (k == e.1) = true
    · rw [if_pos h, if_pos h]; rfl
    · rw [if_neg h, if_neg h]; exact kfind k es
theorem kput (k : List UInt8) (n : Int) : ∀ ks : List (List UInt8 × Int), updPV (.s k) (.i .u64 n) (ks.map kent) = (aput k n ks).map kent
  | [] => rfl
  | e :: es => by
    simp only [List.map_cons, updPV, kent, keyEq, aput, Option.some.injEq]
    by_cases h : (k == e.1) = true
    · rw [if_pos h, if_pos h]; rfl
    · rw [if_neg h, if_neg h, List.map_cons]; rw [kput k n es]; rfl
theorem kkeys (k : List UInt8) (ks : List (List UInt8 × Int)) : keysOK (.s k) (ks.map kent) := by
  intro e he
  obtain ⟨p, _, rfl⟩ := List.mem_map.1 he
  rfl

theorem tfind (k : Int) : ∀ ts : List (Int × Int × Int × Int), findPV (.i .u64 k) (ts.map tent) = (aget k ts).map fun p => .agg [.i .u64 p.1, .i .u64 p.2.1, .i .i64 p.2.2]
  | [] => rfl
  | e :: es => by
    simp only [List.map_cons, findPV, tent, keyEq, if_true, aget, Option.some.injEq]
    by_cases h : (k == e.1) = true
    · rw [if_pos h, if_pos h]; rfl
    · rw [if_neg h, if_neg h]; exact tfind k es
theorem tput (k a b c : Int) : ∀ ts : List (Int × Int × Int × Int), updPV (.i .u64 k) (.agg [.i .u64 a, .i .u64 b, .i .i64 c]) (ts.map tent) = (aput k (a, b, c) ts).map tent
  | [] => rfl
  | e :: es => by
    simp only [List.map_cons, updPV, tent, keyEq, if_true, aput, Option.some.injEq]
    by_cases h : (k == e.1) = true
    · rw [if_pos h, if_pos h]; rfl
    · rw [if_neg h, if_neg h, List.map_cons]; rw [tput k a b c es]; rfl
theorem tkeys (k : Int) (ts : List (Int × Int × Int × Int)) : keysOK (.i .u64 k) (ts.map tent) := by
  intro e he
  obtain ⟨p, _, rfl⟩ := List.mem_map.1 he
  rfl

def getK (ks : List (List UInt8 × Int)) (k : List UInt8) : Int := (aget k ks).getD 0
theorem kgot (k : List UInt8) (ks : List (List UInt8 × Int)) : (findPV (.s k) (ks.map kent)).getD (.i .u64 0) = .i .u64 (getK ks k) := by
  rw [kfind, getK]
  cases aget k ks <;> rfl
def getT (ts : List (Int × Int × Int × Int)) (k : Int) : Int × Int × Int := (aget k ts).getD (0, 0, 0)
def inT (ts : List (Int × Int × Int × Int)) (k : Int) : Bool := (aget k ts).isSome
theorem tgot (k : Int) (ts : List (Int × Int × Int × Int)) : (findPV (.i .u64 k) (ts.map tent)).getD (.agg [.i .u64 0, .i .u64 0, .i .i64 0]) = .agg [.i .u64 (getT ts k).1, .i .u64 (getT ts k).2.1, .i .i64 (getT ts k).2.2] := by
  rw [tfind, getT]
  cases aget k ts <;> rfl
theorem tin (k : Int) (ts : List (Int × Int × Int × Int)) : (findPV (.i .u64 k) (ts.map tent)).isSome = inT ts k := by
  rw [tfind, inT]
  cases aget k ts <;> rfl

/-- a judge in memory -/
def jcells (last : Int) : List SV := [.u (.i .u64 last), .h 1, .h 2]

theorem new_ok (n : Int) : CallT Try.prog 8 [.u (.i .u64 n)] [] fun r σ => r = .p 0 0 ∧ σ = [.cells (jcells n), .map [], .map []] := by
  refine callT_ofL 8 [.tmp 2] Try.func8 rfl Try.ntmps8 rfl (Nat.le_of_ble_eq_true rfl) fun c hnt hc0 => ?_
  refine wps_seq fun K1 hK1 => ?_
  refine wps_region (by rw [hnt]; rfl) 0 ?_
  simp only [↓kOps_app, ↓evOps_nil, ↓evOps_cons, go_sem, Int.reduceAdd, Int.reduceBEq, Int.reduceEq, Int.reduceLE, Int.reduceLT, Int.reduceNe, Int.reduceSub, Int.reduceToNat, Nat.reduceAdd, Nat.reduceBEq, Nat.reduceEqDiff, Nat.reduceLT, Nat.reduceLeDiff, Nat.reduceMul, Nat.reduceSub, reduceCtorEq, reduceIte]
  repeat (refine And.intro ?_ ?_; · first | rfl | omega | assumption | (simp; done) | (simp; omega) | (intros; omega) | (intros; simp_all; done) | (intros; simp_all; omega) | (and_intros <;> first | rfl | omega | assumption | (simp; done)))
  refine hK1 _ _ ?_
  refine wps_seq fun K2 hK2 => ?_
  refine wps_region (by rw [hnt]; rfl) 3 ?_
  simp only [↓kOps_app, ↓evOps_nil, ↓evOps_cons, go_sem, Int.reduceAdd, Int.reduceBEq, Int.reduceEq, Int.reduceLE, Int.reduceLT, Int.reduceNe, Int.reduceSub, Int.reduceToNat, Nat.reduceAdd, Nat.reduceBEq, Nat.reduceEqDiff, Nat.reduceLT, Nat.reduceLeDiff, Nat.reduceMul, Nat.reduceSub, reduceCtorEq, reduceIte]
  repeat (refine And.intro ?_ ?_; · first | rfl | omega | assumption | (simp; done) | (simp; omega) | (intros; omega) | (intros; simp_all; done) | (intros; simp_all; omega) | (and_intros <;> first | rfl | omega | assumption | (simp; done)))
  refine hK2 _ _ ?_
  refine wps_ret ?_
  refine retL [some 2, some 0, some 1] rfl ⟨trivial, trivial⟩ rfl rfl ?_
  simp only [retSV, SV.mv, mvs, subL, List.map_nil, List.map_cons, SObj.mv, posOf, back, List.length_cons, List.length_nil, List.getElem?_cons_zero, List.getElem?_cons_succ, Option.map_some, Nat.reduceAdd, Nat.reduceLT, Nat.zero_add, Nat.lt_add_one, List.getD_cons_zero, List.getD_cons_succ, reduceIte, Nat.reduceEqDiff, Env.get, Env.put, and_true, true_and, implies_true, jcells]

theorem last_ok (n : Int) (a b : List (PV × PV)) : CallT Try.prog 11 [.p 0 0] [.cells (jcells n), .map a, .map b] fun r σ => r = .u (.i .u64 n) ∧ σ = [.cells (jcells n), .map a, .map b] := by
  unfold jcells
  refine callT_ofL 7 [.tmp 2] Try.func11 rfl Try.ntmps11 rfl (Nat.le_of_ble_eq_true rfl) fun c hnt hc0 => ?_
  refine wps_seq fun K1 hK1 => ?_
  refine wps_region (by rw [hnt]; rfl) 0 ?_
  simp only [↓kOps_app, ↓evOps_nil, ↓evOps_cons, go_sem, Int.reduceAdd, Int.reduceBEq, Int.reduceEq, Int.reduceLE, Int.reduceLT, Int.reduceNe, Int.reduceSub, Int.reduceToNat, Nat.reduceAdd, Nat.reduceBEq, Nat.reduceEqDiff, Nat.reduceLT, Nat.reduceLeDiff, Nat.reduceMul, Nat.reduceSub, reduceCtorEq, reduceIte]
  repeat (refine And.intro ?_ ?_; · first | rfl | omega | assumption | (simp; done) | (simp; omega) | (intros; omega) | (intros; simp_all; done) | (intros; simp_all; omega) | (and_intros <;> first | rfl | omega | assumption | (simp; done)))
  refine hK1 _ _ ?_
  refine wps_seq fun K2 hK2 => ?_
  refine wps_region (by rw [hnt]; rfl) 0 ?_
  simp only [↓kOps_app, ↓evOps_nil, ↓evOps_cons, go_sem, Int.reduceAdd, Int.reduceBEq, Int.reduceEq, Int.reduceLE, Int.reduceLT, Int.reduceNe, Int.reduceSub, Int.reduceToNat, Nat.reduceAdd, Nat.reduceBEq, Nat.reduceEqDiff, Nat.reduceLT, Nat.reduceLeDiff, Nat.reduceMul, Nat.reduceSub, reduceCtorEq, reduceIte]
  repeat (refine And.intro ?_ ?_; · first | rfl | omega | assumption | (simp; done) | (simp; omega) | (intros; omega) | (intros; simp_all; done) | (intros; simp_all; omega) | (and_intros <;> first | rfl | omega | assumption | (simp; done)))
  refine hK2 _ _ ?_
  refine wps_ret ?_
  refine retL [some 0, some 1, some 2] rfl ⟨trivial, trivial⟩ rfl rfl ?_
  simp only [retSV, SV.mv, mvs, subL, List.map_nil, List.map_cons, SObj.mv, posOf, back, List.length_cons, List.length_nil, List.getElem?_cons_zero, List.getElem?_cons_succ, Option.map_some, Nat.reduceAdd, Nat.reduceLT, Nat.zero_add, Nat.lt_add_one, List.getD_cons_zero, List.getD_cons_succ, reduceIte, Nat.reduceEqDiff, Env.get, Env.put, and_true, true_and, implies_true]

/-- is one of the keys written behind s -/
def wrI (ks : List (List UInt8 × Int)) (ws : List Wt) (s : Int) : Nat → Nat → Bool
  | 0, _ => false
  | n + 1, i => if decide (s < getK ks (wat ws i).1) then true else wrI ks ws s n (i + 1)

theorem written_ok (last cl r s : Int) (ws : List Wt) (q : Option Nat) (ks : List (List UInt8 × Int)) (b : List (PV × PV)) (hws : ws.length ≤ 8) :
    CallT Try.prog 27 [.p 0 0, .agg (bcells cl r s ws q)] [.cells (jcells last), .map (ks.map kent), .map b] fun r σ => r = .u (.b (wrI ks ws s ws.length 0)) ∧ σ = [.cells (jcells last), .map (ks.map kent), .map b] := by
  unfold jcells bcells
  refine callT_ofL 25 [.tmp 4] Try.func27 rfl Try.ntmps27 rfl (Nat.le_of_ble_eq_true rfl) fun c hnt hc0 => ?_
  refine wps_seq fun K1 hK1 => ?_
  refine wps_region (by rw [hnt]; rfl) 1 ?_
  simp only [↓kOps_app, ↓evOps_nil, ↓evOps_cons, go_sem, Int.reduceAdd, Int.reduceBEq, Int.reduceEq, Int.reduceLE, Int.reduceLT, Int.reduceNe, Int.reduceSub, Int.reduceToNat, Nat.reduceAdd, Nat.reduceBEq, Nat.reduceEqDiff, Nat.reduceLT, Nat.reduceLeDiff, Nat.reduceMul, Nat.reduceSub, reduceCtorEq, reduceIte]
  repeat (refine And.intro ?_ ?_; · first | rfl | omega | assumption | (simp; done) | (simp; omega) | (intros; omega) | (intros; simp_all; done) | (intros; simp_all; omega) | (and_intros <;> first | rfl | omega | assumption | (simp; done)))
  refine hK1 _ _ ?_
  refine wps_seq fun K2 hK2 => ?_
  refine wps_seq fun K3 hK3 => ?_
  refine wps_region (by rw [hnt]; rfl) 0 ?_
  simp only [↓kOps_app, ↓evOps_nil, ↓evOps_cons, go_sem, Int.reduceAdd, Int.reduceBEq, Int.reduceEq, Int.reduceLE, Int.reduceLT, Int.reduceNe, Int.reduceSub, Int.reduceToNat, Nat.reduceAdd, Nat.reduceBEq, Nat.reduceEqDiff, Nat.reduceLT, Nat.reduceLeDiff, Nat.reduceMul, Nat.reduceSub, reduceCtorEq, reduceIte]
  repeat (refine And.intro ?_ ?_; · first | rfl | omega | assumption | (simp; done) | (simp; omega) | (intros; omega) | (intros; simp_all; done) | (intros; simp_all; omega) | (and_intros <;> first | rfl | omega | assumption | (simp; done)))
  refine hK3 _ _ ?_
  refine wps_blk fun K4 hK4 => ?_
  refine wps_loop (fun k e σ => ∃ i : Nat, k = ws.length - i ∧ i ≤ ws.length ∧ wrI ks ws s (ws.length - i) i = wrI ks ws s ws.length 0 ∧ e = [(0, .p 0 0), (3, .p 3 0), (8, .u (.fz (ws.map wrow) q)), (9, .u (.i .i64 ws.length)), (10, .u (.i .i64 i))] ∧ σ = [.cells [.u (.i .u64 last), .h 1, .h 2], .map (ks.map kent), .map b, .cells [.u (.i .u64 cl), .u (.i .u64 r), .u (.i .u64 s), .u (.fz (ws.map wrow) q)]])
    (e0 := [(0, .p 0 0), (3, .p 3 0), (8, .u (.fz (ws.map wrow) q)), (9, .u (.i .i64 ws.length)), (10, .u (.i .i64 0))]) (σ0 := [.cells [.u (.i .u64 last), .h 1, .h 2], .map (ks.map kent), .map b, .cells [.u (.i .u64 cl), .u (.i .u64 r), .u (.i .u64 s), .u (.fz (ws.map wrow) q)]])
    (entL hc0 [some 0, some 1, some 2, some 3] rfl rfl (by simp only [go_sem, reduceIte, Nat.reduceEqDiff, Nat.reduceAdd, Nat.reduceLT]) (by simp only [go_sem, reduceIte, Nat.reduceEqDiff, Nat.reduceAdd, Nat.reduceLT])) ⟨0, rfl, Nat.zero_le _, rfl, rfl, rfl⟩ fun KL k e1 σ1 hI hKL => ?_
  obtain ⟨i, rfl, hi, hch, rfl, rfl⟩ := hI
  refine wps_seq fun K5 hK5 => ?_
  refine wps_region (by rw [hnt]; rfl) 0 ?_
  simp only [↓kOps_app, ↓evOps_nil, ↓evOps_cons, go_sem, Int.reduceAdd, Int.reduceBEq, Int.reduceEq, Int.reduceLE, Int.reduceLT, Int.reduceNe, Int.reduceSub, Int.reduceToNat, Nat.reduceAdd, Nat.reduceBEq, Nat.reduceEqDiff, Nat.reduceLT, Nat.reduceLeDiff, Nat.reduceMul, Nat.reduceSub, reduceCtorEq, reduceIte]
  repeat (refine And.intro ?_ ?_; · first | rfl | omega | assumption | (simp; done) | (simp; omega) | (intros; omega) | (intros; simp_all; done) | (intros; simp_all; omega) | (and_intros <;> first | rfl | omega | assumption | (simp; done)))
  refine hK5 _ _ ?_
  refine wps_seq fun K6 hK6 => ?_
  refine wps_cond (b := _) rfl (fun h1 => ?_) (fun h1 => ?_)
  · simp at h1
    have hel := wrow_at h1
    have hw1 : IntKind.i64.wrap ((i : Int) + 1) = ((i + 1 : Nat) : Int) := by rw [wrap64 (by omega) (by omega)]; omega
    have hst : ws.length - i = (ws.length - (i + 1)) + 1 := by omega
    rw [hst, wrI] at hch
    refine wps_skip ?_
    refine hK6 _ _ ?_
    refine wps_seq fun K7 hK7 => ?_
    refine wps_blk fun K8 hK8 => ?_
    refine wps_seq fun K9 hK9 => ?_
    refine wps_region (by rw [hnt]; rfl) 1 ?_
    simp only [↓kOps_app, ↓evOps_nil, ↓evOps_cons, go_sem, Int.reduceAdd, Int.reduceBEq, Int.reduceEq, Int.reduceLE, Int.reduceLT, Int.reduceNe, Int.reduceSub, Int.reduceToNat, Nat.reduceAdd, Nat.reduceBEq, Nat.reduceEqDiff, Nat.reduceLT, Nat.reduceLeDiff, Nat.reduceMul, Nat.reduceSub, reduceCtorEq, reduceIte, hel]
    repeat (refine And.intro ?_ ?_; · first | rfl | omega | assumption | (simp; done) | (simp; omega) | (intros; omega) | (intros; simp_all; done) | (intros; simp_all; omega) | (and_intros <;> first | rfl | omega | assumption | (simp; done)))
    refine hK9 _ _ ?_
    refine wps_seq fun K10 hK10 => ?_
    refine wps_drawL mixed (by rw [hnt]; rfl) (by kernel_rfl) 0 (ms := [0, 1, 3, 7, 0, 16, 63, 0, 128, 511]) (by kernel_rfl) ?_
    simp only [↓kOps_app, ↓evOps_nil, ↓evOps_cons, go_sem, Int.reduceAdd, Int.reduceBEq, Int.reduceEq, Int.reduceLE, Int.reduceLT, Int.reduceNe, Int.reduceSub, Int.reduceToNat, Nat.reduceAdd, Nat.reduceBEq, Nat.reduceEqDiff, Nat.reduceLT, Nat.reduceLeDiff, Nat.reduceMul, Nat.reduceSub, reduceCtorEq, reduceIte, kkeys, kgot]
    repeat (refine And.intro ?_ ?_; · first | rfl | omega | assumption | (simp; done) | (simp; omega) | (intros; omega) | (intros; simp_all; done) | (intros; simp_all; omega) | (and_intros <;> first | rfl | omega | assumption | (simp; done)))
    refine hK10 _ _ ?_
    refine wps_cond (b := _) rfl (fun h2 => ?_) (fun h2 => ?_)
    · refine wps_seq fun K11 hK11 => ?_
      refine wps_region (by rw [hnt]; rfl) 0 ?_
      simp only [↓kOps_app, ↓evOps_nil, ↓evOps_cons, go_sem, Int.reduceAdd, Int.reduceBEq, Int.reduceEq, Int.reduceLE, Int.reduceLT, Int.reduceNe, Int.reduceSub, Int.reduceToNat, Nat.reduceAdd, Nat.reduceBEq, Nat.reduceEqDiff, Nat.reduceLT, Nat.reduceLeDiff, Nat.reduceMul, Nat.reduceSub, reduceCtorEq, reduceIte]
      repeat (refine And.intro ?_ ?_; · first | rfl | omega | assumption | (simp; done) | (simp; omega) | (intros; omega) | (intros; simp_all; done) | (intros; simp_all; omega) | (and_intros <;> first | rfl | omega | assumption | (simp; done)))
      refine hK11 _ _ ?_
      refine wps_ret ?_
      refine retL [some 0, some 1, some 2] rfl ⟨trivial, trivial⟩ rfl rfl ?_
      rw [if_pos h2] at hch
      simp only [retSV, SV.mv, mvs, subL, List.map_nil, List.map_cons, SObj.mv, posOf, back, List.length_cons, List.length_nil, List.getElem?_cons_zero, List.getElem?_cons_succ, Option.map_some, Nat.reduceAdd, Nat.reduceLT, Nat.zero_add, Nat.lt_add_one, List.getD_cons_zero, List.getD_cons_succ, reduceIte, Nat.reduceEqDiff, Env.get, Env.put, and_true, true_and, implies_true, hch]
    · refine wps_skip ?_
      refine hK8 _ _ ?_
      refine hK7 _ _ ?_
      refine wps_region (by rw [hnt]; rfl) 0 ?_
      simp only [↓kOps_app, ↓evOps_nil, ↓evOps_cons, go_sem, Int.reduceAdd, Int.reduceBEq, Int.reduceEq, Int.reduceLE, Int.reduceLT, Int.reduceNe, Int.reduceSub, Int.reduceToNat, Nat.reduceAdd, Nat.reduceBEq, Nat.reduceEqDiff, Nat.reduceLT, Nat.reduceLeDiff, Nat.reduceMul, Nat.reduceSub, reduceCtorEq, reduceIte, hw1]
      repeat (refine And.intro ?_ ?_; · first | rfl | omega | assumption | (simp; done) | (simp; omega) | (intros; omega) | (intros; simp_all; done) | (intros; simp_all; omega) | (and_intros <;> first | rfl | omega | assumption | (simp; done)))
      rw [if_neg (by rw [h2]; decide)] at hch
      refine hKL _ _ (ws.length - (i + 1)) _ _ (entL hc0 [some 0, some 1, some 2, some 3] rfl rfl (by simp only [go_sem, reduceIte, Nat.reduceEqDiff, Nat.reduceAdd, Nat.reduceLT]) (by simp only [go_sem, reduceIte, Nat.reduceEqDiff, Nat.reduceAdd, Nat.reduceLT])) ⟨i + 1, rfl, by omega, hch, rfl, rfl⟩ (by omega)
  · refine wps_exit ?_
    simp only [reduceIte, Nat.reduceEqDiff]
    refine hK4 _ _ ?_
    refine hK2 _ _ ?_
    refine wps_seq fun K12 hK12 => ?_
    refine wps_region (by rw [hnt]; rfl) 0 ?_
    simp only [↓kOps_app, ↓evOps_nil, ↓evOps_cons, go_sem, Int.reduceAdd, Int.reduceBEq, Int.reduceEq, Int.reduceLE, Int.reduceLT, Int.reduceNe, Int.reduceSub, Int.reduceToNat, Nat.reduceAdd, Nat.reduceBEq, Nat.reduceEqDiff, Nat.reduceLT, Nat.reduceLeDiff, Nat.reduceMul, Nat.reduceSub, reduceCtorEq, reduceIte]
    repeat (refine And.intro ?_ ?_; · first | rfl | omega | assumption | (simp; done) | (simp; omega) | (intros; omega) | (intros; simp_all; done) | (intros; simp_all; omega) | (and_intros <;> first | rfl | omega | assumption | (simp; done)))
    refine hK12 _ _ ?_
    refine wps_ret ?_
    refine retL [some 0, some 1, some 2] rfl ⟨trivial, trivial⟩ rfl rfl ?_
    simp at h1
    have : ws.length - i = 0 := by omega
    rw [this, wrI] at hch
    simp only [retSV, SV.mv, mvs, subL, List.map_nil, List.map_cons, SObj.mv, posOf, back, List.length_cons, List.length_nil, List.getElem?_cons_zero, List.getElem?_cons_succ, Option.map_some, Nat.reduceAdd, Nat.reduceLT, Nat.zero_add, Nat.lt_add_one, List.getD_cons_zero, List.getD_cons_succ, reduceIte, Nat.reduceEqDiff, Env.get, Env.put, and_true, true_and, implies_true, hch]

/-- the keys, with what a commit writes -/
def cmI (ws : List Wt) (n : Int) : Nat → Nat → List (List UInt8 × Int) → List (List UInt8 × Int)
  | 0, _, ks => ks
  | f + 1, i, ks => cmI ws n f (i + 1) (aput (wat ws i).1 n ks)

theorem commit_ok (last cl r s : Int) (ws : List Wt) (q : Option Nat) (ks : List (List UInt8 × Int)) (b : List (PV × PV)) (hws : ws.length ≤ 8) (h0 : 0 ≤ last) (hl : last < 9223372036854775807) :
    CallT Try.prog 28 [.p 0 0, .agg (bcells cl r s ws q)] [.cells (jcells last), .map (ks.map kent), .map b] fun r σ => r = .u (.i .u64 (last + 1)) ∧ σ = [.cells (jcells (last + 1)), .map ((cmI ws (last + 1) ws.length 0 ks).map kent), .map b] := by
  unfold jcells bcells
  have hwl : IntKind.u64.wrap (last + 1) = last + 1 := wrapu64 (by omega) (by omega)
  refine callT_ofL 36 [.tmp 4] Try.func28 rfl Try.ntmps28 rfl (Nat.le_of_ble_eq_true rfl) fun c hnt hc0 => ?_
  refine wps_seq fun K1 hK1 => ?_
  refine wps_region (by rw [hnt]; rfl) 1 ?_
  simp only [↓kOps_app, ↓evOps_nil, ↓evOps_cons, go_sem, Int.reduceAdd, Int.reduceBEq, Int.reduceEq, Int.reduceLE, Int.reduceLT, Int.reduceNe, Int.reduceSub, Int.reduceToNat, Nat.reduceAdd, Nat.reduceBEq, Nat.reduceEqDiff, Nat.reduceLT, Nat.reduceLeDiff, Nat.reduceMul, Nat.reduceSub, reduceCtorEq, reduceIte]
  repeat (refine And.intro ?_ ?_; · first | rfl | omega | assumption | (simp; done) | (simp; omega) | (intros; omega) | (intros; simp_all; done) | (intros; simp_all; omega) | (and_intros <;> first | rfl | omega | assumption | (simp; done)))
  refine hK1 _ _ ?_
  refine wps_seq fun K2 hK2 => ?_
  refine wps_region (by rw [hnt]; rfl) 0 ?_
  simp only [↓kOps_app, ↓evOps_nil, ↓evOps_cons, go_sem, Int.reduceAdd, Int.reduceBEq, Int.reduceEq, Int.reduceLE, Int.reduceLT, Int.reduceNe, Int.reduceSub, Int.reduceToNat, Nat.reduceAdd, Nat.reduceBEq, Nat.reduceEqDiff, Nat.reduceLT, Nat.reduceLeDiff, Nat.reduceMul, Nat.reduceSub, reduceCtorEq, reduceIte, hwl]
  repeat (refine And.intro ?_ ?_; · first | rfl | omega | assumption | (simp; done) | (simp; omega) | (intros; omega) | (intros; simp_all; done) | (intros; simp_all; omega) | (and_intros <;> first | rfl | omega | assumption | (simp; done)))
  refine hK2 _ _ ?_
  refine wps_seq fun K3 hK3 => ?_
  refine wps_seq fun K4 hK4 => ?_
  refine wps_region (by rw [hnt]; rfl) 0 ?_
  simp only [↓kOps_app, ↓evOps_nil, ↓evOps_cons, go_sem, Int.reduceAdd, Int.reduceBEq, Int.reduceEq, Int.reduceLE, Int.reduceLT, Int.reduceNe, Int.reduceSub, Int.reduceToNat, Nat.reduceAdd, Nat.reduceBEq, Nat.reduceEqDiff, Nat.reduceLT, Nat.reduceLeDiff, Nat.reduceMul, Nat.reduceSub, reduceCtorEq, reduceIte]
  repeat (refine And.intro ?_ ?_; · first | rfl | omega | assumption | (simp; done) | (simp; omega) | (intros; omega) | (intros; simp_all; done) | (intros; simp_all; omega) | (and_intros <;> first | rfl | omega | assumption | (simp; done)))
  refine hK4 _ _ ?_
  refine wps_blk fun K5 hK5 => ?_
  refine wps_loop (fun k e σ => ∃ (i : Nat) (ks' : List (List UInt8 × Int)), k = ws.length - i ∧ i ≤ ws.length ∧ cmI ws (last + 1) (ws.length - i) i ks' = cmI ws (last + 1) ws.length 0 ks ∧ e = [(0, .p 0 0), (3, .p 3 0), (15, .u (.fz (ws.map wrow) q)), (16, .u (.i .i64 ws.length)), (17, .u (.i .i64 i))] ∧ σ = [.cells [.u (.i .u64 (last + 1)), .h 1, .h 2], .map (ks'.map kent), .map b, .cells [.u (.i .u64 cl), .u (.i .u64 r), .u (.i .u64 s), .u (.fz (ws.map wrow) q)]])
    (e0 := [(0, .p 0 0), (3, .p 3 0), (15, .u (.fz (ws.map wrow) q)), (16, .u (.i .i64 ws.length)), (17, .u (.i .i64 0))]) (σ0 := [.cells [.u (.i .u64 (last + 1)), .h 1, .h 2], .map (ks.map kent), .map b, .cells [.u (.i .u64 cl), .u (.i .u64 r), .u (.i .u64 s), .u (.fz (ws.map wrow) q)]])
    (entL hc0 [some 0, some 1, some 2, some 3] rfl rfl (by simp only [go_sem, reduceIte, Nat.reduceEqDiff, Nat.reduceAdd, Nat.reduceLT]) (by simp only [go_sem, reduceIte, Nat.reduceEqDiff, Nat.reduceAdd, Nat.reduceLT])) ⟨0, ks, rfl, Nat.zero_le _, rfl, rfl, rfl⟩ fun KL k e1 σ1 hI hKL => ?_
  obtain ⟨i, ks', rfl, hi, hch, rfl, rfl⟩ := hI
  refine wps_seq fun K6 hK6 => ?_
  refine wps_region (by rw [hnt]; rfl) 0 ?_
  simp only [↓kOps_app, ↓evOps_nil, ↓evOps_cons, go_sem, Int.reduceAdd, Int.reduceBEq, Int.reduceEq, Int.reduceLE, Int.reduceLT, Int.reduceNe, Int.reduceSub, Int.reduceToNat, Nat.reduceAdd, Nat.reduceBEq, Nat.reduceEqDiff, Nat.reduceLT, Nat.reduceLeDiff, Nat.reduceMul, Nat.reduceSub, reduceCtorEq, reduceIte]
  repeat (refine And.intro ?_ ?_; · first | rfl | omega | assumption | (simp; done) | (simp; omega) | (intros; omega) | (intros; simp_all; done) | (intros; simp_all; omega) | (and_intros <;> first | rfl | omega | assumption | (simp; done)))
  refine hK6 _ _ ?_
  refine wps_seq fun K7 hK7 => ?_
  refine wps_cond (b := _) rfl (fun h1 => ?_) (fun h1 => ?_)
  · simp at h1
    have hel := wrow_at h1
    have hw1 : IntKind.i64.wrap ((i : Int) + 1) = ((i + 1 : Nat) : Int) := by rw [wrap64 (by omega) (by omega)]; omega
    have hst : ws.length - i = (ws.length - (i + 1)) + 1 := by omega
    rw [hst, cmI] at hch
    refine wps_skip ?_
    refine hK7 _ _ ?_
    refine wps_seq fun K8 hK8 => ?_
    refine wps_blk fun K9 hK9 => ?_
    refine wps_seq fun K10 hK10 => ?_
    refine wps_region (by rw [hnt]; rfl) 1 ?_
    simp only [↓kOps_app, ↓evOps_nil, ↓evOps_cons, go_sem, Int.reduceAdd, Int.reduceBEq, Int.reduceEq, Int.reduceLE, Int.reduceLT, Int.reduceNe, Int.reduceSub, Int.reduceToNat, Nat.reduceAdd, Nat.reduceBEq, Nat.reduceEqDiff, Nat.reduceLT, Nat.reduceLeDiff, Nat.reduceMul, Nat.reduceSub, reduceCtorEq, reduceIte, hel]
    repeat (refine And.intro ?_ ?_; · first | rfl | omega | assumption | (simp; done) | (simp; omega) | (intros; omega) | (intros; simp_all; done) | (intros; simp_all; omega) | (and_intros <;> first | rfl | omega | assumption | (simp; done)))
    refine hK10 _ _ ?_
    refine wps_drawL mixed (by rw [hnt]; rfl) (by kernel_rfl) 0 (ms := [0, 1, 3, 7, 0, 16, 0, 64, 192, 448, 1023]) (by kernel_rfl) ?_
    simp only [↓kOps_app, ↓evOps_nil, ↓evOps_cons, go_sem, Int.reduceAdd, Int.reduceBEq, Int.reduceEq, Int.reduceLE, Int.reduceLT, Int.reduceNe, Int.reduceSub, Int.reduceToNat, Nat.reduceAdd, Nat.reduceBEq, Nat.reduceEqDiff, Nat.reduceLT, Nat.reduceLeDiff, Nat.reduceMul, Nat.reduceSub, reduceCtorEq, reduceIte, kkeys, kput]
    repeat (refine And.intro ?_ ?_; · first | rfl | omega | assumption | (simp; done) | (simp; omega) | (intros; omega) | (intros; simp_all; done) | (intros; simp_all; omega) | (and_intros <;> first | rfl | omega | assumption | (simp; done)))
    refine hK9 _ _ ?_
    refine hK8 _ _ ?_
    refine wps_region (by rw [hnt]; rfl) 0 ?_
    simp only [↓kOps_app, ↓evOps_nil, ↓evOps_cons, go_sem, Int.reduceAdd, Int.reduceBEq, Int.reduceEq, Int.reduceLE, Int.reduceLT, Int.reduceNe, Int.reduceSub, Int.reduceToNat, Nat.reduceAdd, Nat.reduceBEq, Nat.reduceEqDiff, Nat.reduceLT, Nat.reduceLeDiff, Nat.reduceMul, Nat.reduceSub, reduceCtorEq, reduceIte, hw1]
    repeat (refine And.intro ?_ ?_; · first | rfl | omega | assumption | (simp; done) | (simp; omega) | (intros; omega) | (intros; simp_all; done) | (intros; simp_all; omega) | (and_intros <;> first | rfl | omega | assumption | (simp; done)))
    refine hKL _ _ (ws.length - (i + 1)) _ _ (entL hc0 [some 0, some 1, some 2, some 3] rfl rfl (by simp only [go_sem, reduceIte, Nat.reduceEqDiff, Nat.reduceAdd, Nat.reduceLT]) (by simp only [go_sem, reduceIte, Nat.reduceEqDiff, Nat.reduceAdd, Nat.reduceLT])) ⟨i + 1, _, rfl, by omega, hch, rfl, rfl⟩ (by omega)
  · refine wps_exit ?_
    simp only [reduceIte, Nat.reduceEqDiff]
    refine hK5 _ _ ?_
    refine hK3 _ _ ?_
    refine wps_seq fun K11 hK11 => ?_
    refine wps_region (by rw [hnt]; rfl) 0 ?_
    simp only [↓kOps_app, ↓evOps_nil, ↓evOps_cons, go_sem, Int.reduceAdd, Int.reduceBEq, Int.reduceEq, Int.reduceLE, Int.reduceLT, Int.reduceNe, Int.reduceSub, Int.reduceToNat, Nat.reduceAdd, Nat.reduceBEq, Nat.reduceEqDiff, Nat.reduceLT, Nat.reduceLeDiff, Nat.reduceMul, Nat.reduceSub, reduceCtorEq, reduceIte]
    repeat (refine And.intro ?_ ?_; · first | rfl | omega | assumption | (simp; done) | (simp; omega) | (intros; omega) | (intros; simp_all; done) | (intros; simp_all; omega) | (and_intros <;> first | rfl | omega | assumption | (simp; done)))
    refine hK11 _ _ ?_
    refine wps_ret ?_
    refine retL [some 0, some 1, some 2] rfl ⟨trivial, trivial⟩ rfl rfl ?_
    simp at h1
    have : ws.length - i = 0 := by omega
    rw [this, cmI] at hch
    simp only [retSV, SV.mv, mvs, subL, List.map_nil, List.map_cons, SObj.mv, posOf, back, List.length_cons, List.length_nil, List.getElem?_cons_zero, List.getElem?_cons_succ, Option.map_some, Nat.reduceAdd, Nat.reduceLT, Nat.zero_add, Nat.lt_add_one, List.getD_cons_zero, List.getD_cons_succ, reduceIte, Nat.reduceEqDiff, Env.get, Env.put, and_true, true_and, implies_true, hch]

/-! ### the three questions -/
theorem q1_ok (ok : Bool) (cl r s a b e : Int) (w : PV) : CallT Try.prog 24 [.p 0 0, .p 1 0, .p 2 0] [.cells [.u (.b ok)], .cells [.u (.i .u64 cl), .u (.i .u64 r), .u (.i .u64 s), .u w], .cells [.u (.i .u64 a), .u (.i .u64 b), .u (.i .i64 e)]]
    fun x σ => x = .u (.b (ok && decide (r < a))) ∧ σ = [.cells [.u (.b ok)], .cells [.u (.i .u64 cl), .u (.i .u64 r), .u (.i .u64 s), .u w], .cells [.u (.i .u64 a), .u (.i .u64 b), .u (.i .i64 e)]] := by
  refine callT_ofL 12 [.tmp 3] Try.func24 rfl Try.ntmps24 rfl (Nat.le_of_ble_eq_true rfl) fun c hnt hc0 => ?_
  refine wps_seq fun K1 hK1 => ?_
  refine wps_region (by rw [hnt]; rfl) 0 ?_
  simp only [↓kOps_app, ↓evOps_nil, ↓evOps_cons, go_sem, Int.reduceAdd, Int.reduceBEq, Int.reduceEq, Int.reduceLE, Int.reduceLT, Int.reduceNe, Int.reduceSub, Int.reduceToNat, Nat.reduceAdd, Nat.reduceBEq, Nat.reduceEqDiff, Nat.reduceLT, Nat.reduceLeDiff, Nat.reduceMul, Nat.reduceSub, reduceCtorEq, reduceIte]
  repeat (refine And.intro ?_ ?_; · first | rfl | omega | assumption | (simp; done) | (simp; omega) | (intros; omega) | (intros; simp_all; done) | (intros; simp_all; omega) | (and_intros <;> first | rfl | omega | assumption | (simp; done)))
  refine hK1 _ _ ?_
  refine wps_seq fun K2 hK2 => ?_
  refine wps_region (by rw [hnt]; rfl) 0 ?_
  simp only [↓kOps_app, ↓evOps_nil, ↓evOps_cons, go_sem, Int.reduceAdd, Int.reduceBEq, Int.reduceEq, Int.reduceLE, Int.reduceLT, Int.reduceNe, Int.reduceSub, Int.reduceToNat, Nat.reduceAdd, Nat.reduceBEq, Nat.reduceEqDiff, Nat.reduceLT, Nat.reduceLeDiff, Nat.reduceMul, Nat.reduceSub, reduceCtorEq, reduceIte]
  repeat (refine And.intro ?_ ?_; · first | rfl | omega | assumption | (simp; done) | (simp; omega) | (intros; omega) | (intros; simp_all; done) | (intros; simp_all; omega) | (and_intros <;> first | rfl | omega | assumption | (simp; done)))
  refine hK2 _ _ ?_
  refine wps_ret ?_
  refine retL [some 0, some 1, some 2] rfl ⟨trivial, trivial⟩ rfl rfl ?_
  simp only [retSV, SV.mv, mvs, subL, List.map_nil, List.map_cons, SObj.mv, posOf, back, List.length_cons, List.length_nil, List.getElem?_cons_zero, List.getElem?_cons_succ, Option.map_some, Nat.reduceAdd, Nat.reduceLT, Nat.zero_add, Nat.lt_add_one, List.getD_cons_zero, List.getD_cons_succ, reduceIte, Nat.reduceEqDiff, Env.get, Env.put, and_true, true_and, implies_true]

theorem q2_ok (last cl r s : Int) (w : PV) (a b : List (PV × PV)) : CallT Try.prog 25 [.p 3 0, .p 4 0] [.cells (jcells last), .map a, .map b, .cells [.u (.i .u64 cl), .u (.i .u64 r), .u (.i .u64 s), .u w], .cells [.p 0 0]]
    fun x σ => x = .u (.b (decide (last < s))) ∧ σ = [.cells (jcells last), .map a, .map b, .cells [.u (.i .u64 cl), .u (.i .u64 r), .u (.i .u64 s), .u w], .cells [.p 0 0]] := by
  unfold jcells
  refine callT_ofL 10 [.tmp 2] Try.func25 rfl Try.ntmps25 rfl (Nat.le_of_ble_eq_true rfl) fun c hnt hc0 => ?_
  refine wps_seq fun K1 hK1 => ?_
  refine wps_region (by rw [hnt]; rfl) 0 ?_
  simp only [↓kOps_app, ↓evOps_nil, ↓evOps_cons, go_sem, Int.reduceAdd, Int.reduceBEq, Int.reduceEq, Int.reduceLE, Int.reduceLT, Int.reduceNe, Int.reduceSub, Int.reduceToNat, Nat.reduceAdd, Nat.reduceBEq, Nat.reduceEqDiff, Nat.reduceLT, Nat.reduceLeDiff, Nat.reduceMul, Nat.reduceSub, reduceCtorEq, reduceIte]
  repeat (refine And.intro ?_ ?_; · first | rfl | omega | assumption | (simp; done) | (simp; omega) | (intros; omega) | (intros; simp_all; done) | (intros; simp_all; omega) | (and_intros <;> first | rfl | omega | assumption | (simp; done)))
  refine hK1 _ _ ?_
  refine wps_seq fun K2 hK2 => ?_
  refine wps_drawL mixed (by rw [hnt]; rfl) (by kernel_rfl) 0 (ms := [0, 1, 0, 4, 12, 28, 63, 127]) (by kernel_rfl) ?_
  simp only [↓kOps_app, ↓evOps_nil, ↓evOps_cons, go_sem, Int.reduceAdd, Int.reduceBEq, Int.reduceEq, Int.reduceLE, Int.reduceLT, Int.reduceNe, Int.reduceSub, Int.reduceToNat, Nat.reduceAdd, Nat.reduceBEq, Nat.reduceEqDiff, Nat.reduceLT, Nat.reduceLeDiff, Nat.reduceMul, Nat.reduceSub, reduceCtorEq, reduceIte]
  repeat (refine And.intro ?_ ?_; · first | rfl | omega | assumption | (simp; done) | (simp; omega) | (intros; omega) | (intros; simp_all; done) | (intros; simp_all; omega) | (and_intros <;> first | rfl | omega | assumption | (simp; done)))
  refine hK2 _ _ ?_
  refine wps_ret ?_
  refine retL [some 0, some 1, some 2, some 3, some 4] rfl ⟨trivial, trivial⟩ rfl rfl ?_
  simp only [retSV, SV.mv, mvs, subL, List.map_nil, List.map_cons, SObj.mv, posOf, back, List.length_cons, List.length_nil, List.getElem?_cons_zero, List.getElem?_cons_succ, Option.map_some, Nat.reduceAdd, Nat.reduceLT, Nat.zero_add, Nat.lt_add_one, List.getD_cons_zero, List.getD_cons_succ, reduceIte, Nat.reduceEqDiff, Env.get, Env.put, and_true, true_and, implies_true]

theorem q3_ok (last : Int) (a b : List (PV × PV)) : CallT Try.prog 26 [.p 3 0] [.cells (jcells last), .map a, .map b, .cells [.p 0 0]]
    fun x σ => x = .u (.b (decide (9223372036854775807 ≤ last))) ∧ σ = [.cells (jcells last), .map a, .map b, .cells [.p 0 0]] := by
  unfold jcells
  refine callT_ofL 7 [.tmp 1] Try.func26 rfl Try.ntmps26 rfl (Nat.le_of_ble_eq_true rfl) fun c hnt hc0 => ?_
  refine wps_seq fun K1 hK1 => ?_
  refine wps_region (by rw [hnt]; rfl) 0 ?_
  simp only [↓kOps_app, ↓evOps_nil, ↓evOps_cons, go_sem, Int.reduceAdd, Int.reduceBEq, Int.reduceEq, Int.reduceLE, Int.reduceLT, Int.reduceNe, Int.reduceSub, Int.reduceToNat, Nat.reduceAdd, Nat.reduceBEq, Nat.reduceEqDiff, Nat.reduceLT, Nat.reduceLeDiff, Nat.reduceMul, Nat.reduceSub, reduceCtorEq, reduceIte]
  repeat (refine And.intro ?_ ?_; · first | rfl | omega | assumption | (simp; done) | (simp; omega) | (intros; omega) | (intros; simp_all; done) | (intros; simp_all; omega) | (and_intros <;> first | rfl | omega | assumption | (simp; done)))
  refine hK1 _ _ ?_
  refine wps_seq fun K2 hK2 => ?_
  refine wps_region (by rw [hnt]; rfl) 0 ?_
  simp only [↓kOps_app, ↓evOps_nil, ↓evOps_cons, go_sem, Int.reduceAdd, Int.reduceBEq, Int.reduceEq, Int.reduceLE, Int.reduceLT, Int.reduceNe, Int.reduceSub, Int.reduceToNat, Nat.reduceAdd, Nat.reduceBEq, Nat.reduceEqDiff, Nat.reduceLT, Nat.reduceLeDiff, Nat.reduceMul, Nat.reduceSub, reduceCtorEq, reduceIte]
  repeat (refine And.intro ?_ ?_; · first | rfl | omega | assumption | (simp; done) | (simp; omega) | (intros; omega) | (intros; simp_all; done) | (intros; simp_all; omega) | (and_intros <;> first | rfl | omega | assumption | (simp; done)))
  refine hK2 _ _ ?_
  refine wps_ret ?_
  refine retL [some 0, some 1, some 2, some 3] rfl ⟨trivial, trivial⟩ rfl rfl ?_
  simp only [retSV, SV.mv, mvs, subL, List.map_nil, List.map_cons, SObj.mv, posOf, back, List.length_cons, List.length_nil, List.getElem?_cons_zero, List.getElem?_cons_succ, Option.map_some, Nat.reduceAdd, Nat.reduceLT, Nat.zero_add, Nat.lt_add_one, List.getD_cons_zero, List.getD_cons_succ, reduceIte, Nat.reduceEqDiff, Env.get, Env.put, and_true, true_and, implies_true]
end Go.Proofs.Ytiipndbcddgjlaa
