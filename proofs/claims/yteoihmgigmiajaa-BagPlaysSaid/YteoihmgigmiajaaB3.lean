import Derived.Test.YteoihmgigmiajaaB2
set_option linter.all false
set_option linter.unusedSimpArgs false
set_option linter.unusedVariables false
namespace Go.Proofs.Yteoihmgigmiajaa
open Go.Nm

/-- goes from one node to another -/
def lostB (fr to : Int) (p : Pk) : Bool := (decide (fr < 0) || p.1 == fr) && (decide (to < 0) || p.2.1 == to)

theorem lostF_ok (fr to : Int) (p : Pk) : CallT Try.prog 21 [.agg [.u (.i .i64 p.1), .u (.i .i64 p.2.1), .u (.s p.2.2)], .p 0 0, .p 1 0] [.cells [.u (.i .i64 fr)], .cells [.u (.i .i64 to)]]
    fun r σ => r = .u (.b (lostB fr to p)) ∧ σ = [.cells [.u (.i .i64 fr)], .cells [.u (.i .i64 to)]] := by
  refine callT_ofL 23 [.tmp 4] Try.func21 rfl Try.ntmps21 rfl (Nat.le_of_ble_eq_true rfl) fun c hnt hc0 => ?_
  refine wps_seq fun K1 hK1 => ?_
  refine wps_region (by rw [hnt]; rfl) 1 ?_
  simp only [↓kOps_app, ↓evOps_nil, ↓evOps_cons, go_sem, Int.reduceAdd, Int.reduceBEq, Int.reduceEq, Int.reduceLE, Int.reduceLT, Int.reduceNe, Int.reduceSub, Int.reduceToNat, Nat.reduceAdd, Nat.reduceBEq, Nat.reduceEqDiff, Nat.reduceLT, Nat.reduceLeDiff, Nat.reduceMul, Nat.reduceSub, reduceCtorEq, reduceIte]
  repeat (refine And.intro ?_ ?_; · first | rfl | omega | assumption | (simp; done) | (simp; omega) | (intros; omega) | (intros; simp_all; done) | (intros; simp_all; omega) | (and_intros <;> first | rfl | omega | assumption | (simp; done)))
  refine hK1 _ _ ?_
  refine wps_seq fun K2 hK2 => ?_
  refine wps_region (by rw [hnt]; rfl) 0 ?_
  simp only [↓kOps_app, ↓evOps_nil, ↓evOps_cons, go_sem, Int.reduceAdd, Int.reduceBEq, Int.reduceEq, Int.reduceLE, Int.reduceLT, Int.reduceNe, Int.reduceSub, Int.reduceToNat, Nat.reduceAdd, Nat.reduceBEq, Nat.reduceEqDiff, Nat.reduceLT, Nat.reduceLeDiff, Nat.reduceMul, Nat.reduceSub, reduceCtorEq, reduceIte]
  repeat (refine And.intro ?_ ?_; · first | rfl | omega | assumption | (simp; done) | (simp; omega) | (intros; omega) | (intros; simp_all; done) | (intros; simp_all; omega) | (and_intros <;> first | rfl | omega | assumption | (simp; done)))
  refine hK2 _ _ ?_
  refine wps_ret ?_
  refine retL [some 0, some 1] rfl ⟨trivial, trivial⟩ rfl rfl ?_
  simp only [retSV, SV.mv, mvs, subL, List.map_nil, List.map_cons, SObj.mv, posOf, back, List.length_cons, List.length_nil, List.getElem?_cons_zero, List.getElem?_cons_succ, Option.map_some, Nat.reduceAdd, Nat.reduceLT, Nat.zero_add, Nat.lt_add_one, List.getD_cons_zero, List.getD_cons_succ, reduceIte, Nat.reduceEqDiff, Env.get, Env.put, and_true, true_and, implies_true, lostB]

theorem idx_none (fr to : Int) (ps : List Pk) (hw : roomy ps) (h : ∀ p ∈ ps, lostB fr to p = false) : CallT Try.prog 22 [.h 0, .fn 21 [.p 1 0, .p 2 0]] [.row 33 3 (ps.map prow), .cells [.u (.i .i64 fr)], .cells [.u (.i .i64 to)]]
    fun r σ => r = .u (.i .i64 (-1)) ∧ σ = [.row 33 3 (ps.map prow), .cells [.u (.i .i64 fr)], .cells [.u (.i .i64 to)]] := by
  unfold roomy at hw
  refine callT_ofL 19 [.tmp 4] Try.func22 rfl Try.ntmps22 rfl (Nat.le_of_ble_eq_true rfl) fun c hnt hc0 => ?_
  refine wps_seq fun K1 hK1 => ?_
  refine wps_region (by rw [hnt]; rfl) 0 ?_
  simp only [↓kOps_app, ↓evOps_nil, ↓evOps_cons, go_sem, Int.reduceAdd, Int.reduceBEq, Int.reduceEq, Int.reduceLE, Int.reduceLT, Int.reduceNe, Int.reduceSub, Int.reduceToNat, Nat.reduceAdd, Nat.reduceBEq, Nat.reduceEqDiff, Nat.reduceLT, Nat.reduceLeDiff, Nat.reduceMul, Nat.reduceSub, reduceCtorEq, reduceIte]
  repeat (refine And.intro ?_ ?_; · first | rfl | omega | assumption | (simp; done) | (simp; omega) | (intros; omega) | (intros; simp_all; done) | (intros; simp_all; omega) | (and_intros <;> first | rfl | omega | assumption | (simp; done)))
  refine hK1 _ _ ?_
  refine wps_seq fun K2 hK2 => ?_
  refine wps_seq fun K3 hK3 => ?_
  refine wps_region (by rw [hnt]; rfl) 0 ?_
  simp only [↓kOps_app, ↓evOps_nil, ↓evOps_cons, go_sem, Int.reduceAdd, Int.reduceBEq, Int.reduceEq, Int.reduceLE, Int.reduceLT, Int.reduceNe, Int.reduceSub, Int.reduceToNat, Nat.reduceAdd, Nat.reduceBEq, Nat.reduceEqDiff, Nat.reduceLT, Nat.reduceLeDiff, Nat.reduceMul, Nat.reduceSub, reduceCtorEq, reduceIte]
  repeat (refine And.intro ?_ ?_; · first | rfl | omega | assumption | (simp; done) | (simp; omega) | (intros; omega) | (intros; simp_all; done) | (intros; simp_all; omega) | (and_intros <;> first | rfl | omega | assumption | (simp; done)))
  refine hK3 _ _ ?_
  refine wps_blk fun K4 hK4 => ?_
  refine wps_loop (fun k e σ => ∃ i : Nat, k = ps.length - i ∧ i ≤ ps.length ∧ e = [(0, .h 0), (1, .fn 21 [.p 1 0, .p 2 0]), (7, .u (.i .i64 ps.length)), (8, .u (.i .i64 i))] ∧ σ = [.row 33 3 (ps.map prow), .cells [.u (.i .i64 fr)], .cells [.u (.i .i64 to)]])
    (e0 := [(0, .h 0), (1, .fn 21 [.p 1 0, .p 2 0]), (7, .u (.i .i64 ps.length)), (8, .u (.i .i64 0))]) (σ0 := [.row 33 3 (ps.map prow), .cells [.u (.i .i64 fr)], .cells [.u (.i .i64 to)]])
    (entL hc0 [some 0, some 1, some 2] rfl rfl (by simp only [go_sem, reduceIte, Nat.reduceEqDiff, Nat.reduceAdd, Nat.reduceLT]) (by simp only [go_sem, reduceIte, Nat.reduceEqDiff, Nat.reduceAdd, Nat.reduceLT])) ⟨0, rfl, Nat.zero_le _, rfl, rfl⟩ fun KL k e1 σ1 hI hKL => ?_
  obtain ⟨i, rfl, hi, rfl, rfl⟩ := hI
  refine wps_seq fun K5 hK5 => ?_
  refine wps_region (by rw [hnt]; rfl) 0 ?_
  simp only [↓kOps_app, ↓evOps_nil, ↓evOps_cons, go_sem, Int.reduceAdd, Int.reduceBEq, Int.reduceEq, Int.reduceLE, Int.reduceLT, Int.reduceNe, Int.reduceSub, Int.reduceToNat, Nat.reduceAdd, Nat.reduceBEq, Nat.reduceEqDiff, Nat.reduceLT, Nat.reduceLeDiff, Nat.reduceMul, Nat.reduceSub, reduceCtorEq, reduceIte]
  repeat (refine And.intro ?_ ?_; · first | rfl | omega | assumption | (simp; done) | (simp; omega) | (intros; omega) | (intros; simp_all; done) | (intros; simp_all; omega) | (and_intros <;> first | rfl | omega | assumption | (simp; done)))
  refine hK5 _ _ ?_
  refine wps_seq fun K6 hK6 => ?_
  refine wps_cond (b := _) rfl (fun h1 => ?_) (fun h1 => ?_)
  · simp at h1
    have hel := prow_at h1
    have hw1 : IntKind.i64.wrap ((i : Int) + 1) = ((i + 1 : Nat) : Int) := by rw [wrap64 (by omega) (by omega)]; omega
    have hf := lostF_ok fr to (pat ps i)
    have hno : lostB fr to (pat ps i) = false := h _ (by rw [pat, List.getD_eq_getElem?_getD, List.getElem?_eq_getElem h1]; exact List.getElem_mem h1)
    refine wps_skip ?_
    refine hK6 _ _ ?_
    refine wps_seq fun K7 hK7 => ?_
    refine wps_blk fun K8 hK8 => ?_
    refine wps_seq fun K9 hK9 => ?_
    refine wps_region (by rw [hnt]; rfl) 0 ?_
    simp only [↓kOps_app, ↓evOps_nil, ↓evOps_cons, go_sem, Int.reduceAdd, Int.reduceBEq, Int.reduceEq, Int.reduceLE, Int.reduceLT, Int.reduceNe, Int.reduceSub, Int.reduceToNat, Nat.reduceAdd, Nat.reduceBEq, Nat.reduceEqDiff, Nat.reduceLT, Nat.reduceLeDiff, Nat.reduceMul, Nat.reduceSub, reduceCtorEq, reduceIte]
    repeat (refine And.intro ?_ ?_; · first | rfl | omega | assumption | (simp; done) | (simp; omega) | (intros; omega) | (intros; simp_all; done) | (intros; simp_all; omega) | (and_intros <;> first | rfl | omega | assumption | (simp; done)))
    refine hK9 _ _ ?_
    refine wps_seq fun K10 hK10 => ?_
    refine wps_region (by rw [hnt]; rfl) 0 ?_
    simp only [↓kOps_app, ↓evOps_nil, ↓evOps_cons, go_sem, Int.reduceAdd, Int.reduceBEq, Int.reduceEq, Int.reduceLE, Int.reduceLT, Int.reduceNe, Int.reduceSub, Int.reduceToNat, Nat.reduceAdd, Nat.reduceBEq, Nat.reduceEqDiff, Nat.reduceLT, Nat.reduceLeDiff, Nat.reduceMul, Nat.reduceSub, reduceCtorEq, reduceIte, hel]
    repeat (refine And.intro ?_ ?_; · first | rfl | omega | assumption | (simp; done) | (simp; omega) | (intros; omega) | (intros; simp_all; done) | (intros; simp_all; omega) | (and_intros <;> first | rfl | omega | assumption | (simp; done)))
    refine callT_at [1, 2] [_, _] hf rfl rfl ⟨rfl, rfl, trivial⟩ (by simp only [go_sem, reduceIte, Nat.reduceEqDiff, Nat.reduceAdd, Nat.reduceLT]) (by simp only [go_sem, reduceIte, Nat.reduceEqDiff, Nat.reduceAdd, Nat.reduceLT]) rfl (fun N => by (try simp only [go_sem, reduceIte, Nat.reduceEqDiff, Nat.reduceAdd, Nat.reduceLT]); try rfl) (fun N => by (try simp only [go_sem, reduceIte, Nat.reduceEqDiff, Nat.reduceAdd, Nat.reduceLT]); try rfl) ?_
    simp only [↓kOps_app, ↓evOps_nil, ↓evOps_cons, go_sem, Int.reduceAdd, Int.reduceBEq, Int.reduceEq, Int.reduceLE, Int.reduceLT, Int.reduceNe, Int.reduceSub, Int.reduceToNat, Nat.reduceAdd, Nat.reduceBEq, Nat.reduceEqDiff, Nat.reduceLT, Nat.reduceLeDiff, Nat.reduceMul, Nat.reduceSub, reduceCtorEq, reduceIte, hel]
    repeat (refine And.intro ?_ ?_; · first | rfl | omega | assumption | (simp; done) | (simp; omega) | (intros; omega) | (intros; simp_all; done) | (intros; simp_all; omega) | (and_intros <;> first | rfl | omega | assumption | (simp; done)))
    refine hK10 _ _ ?_
    refine wps_cond (b := _) rfl (fun h2 => ?_) (fun h2 => ?_)
    · exact absurd h2 (by simp [hno])
    · refine wps_skip ?_
      refine hK8 _ _ ?_
      refine hK7 _ _ ?_
      refine wps_region (by rw [hnt]; rfl) 0 ?_
      simp only [↓kOps_app, ↓evOps_nil, ↓evOps_cons, go_sem, Int.reduceAdd, Int.reduceBEq, Int.reduceEq, Int.reduceLE, Int.reduceLT, Int.reduceNe, Int.reduceSub, Int.reduceToNat, Nat.reduceAdd, Nat.reduceBEq, Nat.reduceEqDiff, Nat.reduceLT, Nat.reduceLeDiff, Nat.reduceMul, Nat.reduceSub, reduceCtorEq, reduceIte, hw1]
      repeat (refine And.intro ?_ ?_; · first | rfl | omega | assumption | (simp; done) | (simp; omega) | (intros; omega) | (intros; simp_all; done) | (intros; simp_all; omega) | (and_intros <;> first | rfl | omega | assumption | (simp; done)))
      exact hKL _ _ (ps.length - (i + 1)) _ _ (entL hc0 [some 0, some 1, some 2] rfl rfl (by simp only [go_sem, reduceIte, Nat.reduceEqDiff, Nat.reduceAdd, Nat.reduceLT]) (by simp only [go_sem, reduceIte, Nat.reduceEqDiff, Nat.reduceAdd, Nat.reduceLT])) ⟨i + 1, rfl, by omega, rfl, rfl⟩ (by omega)
  · refine wps_exit ?_
    simp only [reduceIte, Nat.reduceEqDiff]
    refine hK4 _ _ ?_
    refine hK2 _ _ ?_
    refine wps_seq fun K11 hK11 => ?_
    refine wps_region (by rw [hnt]; rfl) 0 ?_
    simp only [↓kOps_app, ↓evOps_nil, ↓evOps_cons, go_sem, Int.reduceAdd, Int.reduceBEq, Int.reduceEq, Int.reduceLE, Int.reduceLT, Int.reduceNe, Int.reduceSub, Int.reduceToNat, Nat.reduceAdd, Nat.reduceBEq, Nat.reduceEqDiff, Nat.reduceLT, Nat.reduceLeDiff, Nat.reduceMul, Nat.reduceSub, reduceCtorEq, reduceIte]
    repeat (refine And.intro ?_ ?_; · first | rfl | omega | assumption | (simp; done) | (simp; omega) | (intros; omega) | (intros; simp_all; done) | (intros; simp_all; omega) | (and_intros <;> first | rfl | omega | assumption | (simp; done)))
    refine hK11 _ _ ?_
    refine wps_ret ?_
    refine retL [some 0, some 1, some 2] rfl ⟨trivial, trivial⟩ rfl rfl ?_
    simp only [retSV, SV.mv, mvs, subL, List.map_nil, List.map_cons, SObj.mv, posOf, back, List.length_cons, List.length_nil, List.getElem?_cons_zero, List.getElem?_cons_succ, Option.map_some, Nat.reduceAdd, Nat.reduceLT, Nat.zero_add, Nat.lt_add_one, List.getD_cons_zero, List.getD_cons_succ, reduceIte, Nat.reduceEqDiff, Env.get, Env.put, and_true, true_and, implies_true]

theorem idx_some (fr to : Int) (ps : List Pk) (n : Nat) (hw : roomy ps) (hn : n < ps.length) (h : ∀ j < n, lostB fr to (pat ps j) = false) (hy : lostB fr to (pat ps n) = true) : CallT Try.prog 22 [.h 0, .fn 21 [.p 1 0, .p 2 0]] [.row 33 3 (ps.map prow), .cells [.u (.i .i64 fr)], .cells [.u (.i .i64 to)]]
    fun r σ => r = .u (.i .i64 (n : Int)) ∧ σ = [.row 33 3 (ps.map prow), .cells [.u (.i .i64 fr)], .cells [.u (.i .i64 to)]] := by
  unfold roomy at hw
  refine callT_ofL 19 [.tmp 4] Try.func22 rfl Try.ntmps22 rfl (Nat.le_of_ble_eq_true rfl) fun c hnt hc0 => ?_
  refine wps_seq fun K1 hK1 => ?_
  refine wps_region (by rw [hnt]; rfl) 0 ?_
  simp only [↓kOps_app, ↓evOps_nil, ↓evOps_cons, go_sem, Int.reduceAdd, Int.reduceBEq, Int.reduceEq, Int.reduceLE, Int.reduceLT, Int.reduceNe, Int.reduceSub, Int.reduceToNat, Nat.reduceAdd, Nat.reduceBEq, Nat.reduceEqDiff, Nat.reduceLT, Nat.reduceLeDiff, Nat.reduceMul, Nat.reduceSub, reduceCtorEq, reduceIte]
  repeat (refine And.intro ?_ ?_; · first | rfl | omega | assumption | (simp; done) | (simp; omega) | (intros; omega) | (intros; simp_all; done) | (intros; simp_all; omega) | (and_intros <;> first | rfl | omega | assumption | (simp; done)))
  refine hK1 _ _ ?_
  refine wps_seq fun K2 hK2 => ?_
  refine wps_seq fun K3 hK3 => ?_
  refine wps_region (by rw [hnt]; rfl) 0 ?_
  simp only [↓kOps_app, ↓evOps_nil, ↓evOps_cons, go_sem, Int.reduceAdd, Int.reduceBEq, Int.reduceEq, Int.reduceLE, Int.reduceLT, Int.reduceNe, Int.reduceSub, Int.reduceToNat, Nat.reduceAdd, Nat.reduceBEq, Nat.reduceEqDiff, Nat.reduceLT, Nat.reduceLeDiff, Nat.reduceMul, Nat.reduceSub, reduceCtorEq, reduceIte]
  repeat (refine And.intro ?_ ?_; · first | rfl | omega | assumption | (simp; done) | (simp; omega) | (intros; omega) | (intros; simp_all; done) | (intros; simp_all; omega) | (and_intros <;> first | rfl | omega | assumption | (simp; done)))
  refine hK3 _ _ ?_
  refine wps_blk fun K4 hK4 => ?_
  refine wps_loop (fun k e σ => ∃ i : Nat, k = ps.length - i ∧ i ≤ n ∧ e = [(0, .h 0), (1, .fn 21 [.p 1 0, .p 2 0]), (7, .u (.i .i64 ps.length)), (8, .u (.i .i64 i))] ∧ σ = [.row 33 3 (ps.map prow), .cells [.u (.i .i64 fr)], .cells [.u (.i .i64 to)]])
    (e0 := [(0, .h 0), (1, .fn 21 [.p 1 0, .p 2 0]), (7, .u (.i .i64 ps.length)), (8, .u (.i .i64 0))]) (σ0 := [.row 33 3 (ps.map prow), .cells [.u (.i .i64 fr)], .cells [.u (.i .i64 to)]])
    (entL hc0 [some 0, some 1, some 2] rfl rfl (by simp only [go_sem, reduceIte, Nat.reduceEqDiff, Nat.reduceAdd, Nat.reduceLT]) (by simp only [go_sem, reduceIte, Nat.reduceEqDiff, Nat.reduceAdd, Nat.reduceLT])) ⟨0, rfl, Nat.zero_le _, rfl, rfl⟩ fun KL k e1 σ1 hI hKL => ?_
  obtain ⟨i, rfl, hi, rfl, rfl⟩ := hI
  refine wps_seq fun K5 hK5 => ?_
  refine wps_region (by rw [hnt]; rfl) 0 ?_
  simp only [↓kOps_app, ↓evOps_nil, ↓evOps_cons, go_sem, Int.reduceAdd, Int.reduceBEq, Int.reduceEq, Int.reduceLE, Int.reduceLT, Int.reduceNe, Int.reduceSub, Int.reduceToNat, Nat.reduceAdd, Nat.reduceBEq, Nat.reduceEqDiff, Nat.reduceLT, Nat.reduceLeDiff, Nat.reduceMul, Nat.reduceSub, reduceCtorEq, reduceIte]
  repeat (refine And.intro ?_ ?_; · first | rfl | omega | assumption | (simp; done) | (simp; omega) | (intros; omega) | (intros; simp_all; done) | (intros; simp_all; omega) | (and_intros <;> first | rfl | omega | assumption | (simp; done)))
  refine hK5 _ _ ?_
  refine wps_seq fun K6 hK6 => ?_
  refine wps_cond (b := _) rfl (fun h1 => ?_) (fun h1 => ?_)
  · simp at h1
    have hel := prow_at h1
    have hw1 : IntKind.i64.wrap ((i : Int) + 1) = ((i + 1 : Nat) : Int) := by rw [wrap64 (by omega) (by omega)]; omega
    have hf := lostF_ok fr to (pat ps i)
    refine wps_skip ?_
    refine hK6 _ _ ?_
    refine wps_seq fun K7 hK7 => ?_
    refine wps_blk fun K8 hK8 => ?_
    refine wps_seq fun K9 hK9 => ?_
    refine wps_region (by rw [hnt]; rfl) 0 ?_
    simp only [↓kOps_app, ↓evOps_nil, ↓evOps_cons, go_sem, Int.reduceAdd, Int.reduceBEq, Int.reduceEq, Int.reduceLE, Int.reduceLT, Int.reduceNe, Int.reduceSub, Int.reduceToNat, Nat.reduceAdd, Nat.reduceBEq, Nat.reduceEqDiff, Nat.reduceLT, Nat.reduceLeDiff, Nat.reduceMul, Nat.reduceSub, reduceCtorEq, reduceIte]
    repeat (refine And.intro ?_ ?_; · first | rfl | omega | assumption | (simp; done) | (simp; omega) | (intros; omega) | (intros; simp_all; done) | (intros; simp_all; omega) | (and_intros <;> first | rfl | omega | assumption | (simp; done)))
    refine hK9 _ _ ?_
    refine wps_seq fun K10 hK10 => ?_
    refine wps_region (by rw [hnt]; rfl) 0 ?_
    simp only [↓kOps_app, ↓evOps_nil, ↓evOps_cons, go_sem, Int.reduceAdd, Int.reduceBEq, Int.reduceEq, Int.reduceLE, Int.reduceLT, Int.reduceNe, Int.reduceSub, Int.reduceToNat, Nat.reduceAdd, Nat.reduceBEq, Nat.reduceEqDiff, Nat.reduceLT, Nat.reduceLeDiff, Nat.reduceMul, Nat.reduceSub, reduceCtorEq, reduceIte, hel]
    repeat (refine And.intro ?_ ?_; · first | rfl | omega | assumption | (simp; done) | (simp; omega) | (intros; omega) | (intros; simp_all; done) | (intros; simp_all; omega) | (and_intros <;> first | rfl | omega | assumption | (simp; done)))
    refine callT_at [1, 2] [_, _] hf rfl rfl ⟨rfl, rfl, trivial⟩ (by simp only [go_sem, reduceIte, Nat.reduceEqDiff, Nat.reduceAdd, Nat.reduceLT]) (by simp only [go_sem, reduceIte, Nat.reduceEqDiff, Nat.reduceAdd, Nat.reduceLT]) rfl (fun N => by (try simp only [go_sem, reduceIte, Nat.reduceEqDiff, Nat.reduceAdd, Nat.reduceLT]); try rfl) (fun N => by (try simp only [go_sem, reduceIte, Nat.reduceEqDiff, Nat.reduceAdd, Nat.reduceLT]); try rfl) ?_
    simp only [↓kOps_app, ↓evOps_nil, ↓evOps_cons, go_sem, Int.reduceAdd, Int.reduceBEq, Int.reduceEq, Int.reduceLE, Int.reduceLT, Int.reduceNe, Int.reduceSub, Int.reduceToNat, Nat.reduceAdd, Nat.reduceBEq, Nat.reduceEqDiff, Nat.reduceLT, Nat.reduceLeDiff, Nat.reduceMul, Nat.reduceSub, reduceCtorEq, reduceIte, hel]
    repeat (refine And.intro ?_ ?_; · first | rfl | omega | assumption | (simp; done) | (simp; omega) | (intros; omega) | (intros; simp_all; done) | (intros; simp_all; omega) | (and_intros <;> first | rfl | omega | assumption | (simp; done)))
    refine hK10 _ _ ?_
    refine wps_cond (b := _) rfl (fun h2 => ?_) (fun h2 => ?_)
    · refine wps_seq fun K11 hK11 => ?_
      refine wps_region (by rw [hnt]; rfl) 0 ?_
      simp only [↓kOps_app, ↓evOps_nil, ↓evOps_cons, go_sem, Int.reduceAdd, Int.reduceBEq, Int.reduceEq, Int.reduceLE, Int.reduceLT, Int.reduceNe, Int.reduceSub, Int.reduceToNat, Nat.reduceAdd, Nat.reduceBEq, Nat.reduceEqDiff, Nat.reduceLT, Nat.reduceLeDiff, Nat.reduceMul, Nat.reduceSub, reduceCtorEq, reduceIte]
      repeat (refine And.intro ?_ ?_; · first | rfl | omega | assumption | (simp; done) | (simp; omega) | (intros; omega) | (intros; simp_all; done) | (intros; simp_all; omega) | (and_intros <;> first | rfl | omega | assumption | (simp; done)))
      refine hK11 _ _ ?_
      refine wps_ret ?_
      have hin : i = n := by
        rcases Nat.lt_or_ge i n with h' | h'
        · rw [h i h'] at h2; cases h2
        · omega
      subst hin
      refine retL [some 0, some 1, some 2] rfl ⟨trivial, trivial⟩ rfl rfl ?_
      simp only [retSV, SV.mv, mvs, subL, List.map_nil, List.map_cons, SObj.mv, posOf, back, List.length_cons, List.length_nil, List.getElem?_cons_zero, List.getElem?_cons_succ, Option.map_some, Nat.reduceAdd, Nat.reduceLT, Nat.zero_add, Nat.lt_add_one, List.getD_cons_zero, List.getD_cons_succ, reduceIte, Nat.reduceEqDiff, Env.get, Env.put, and_true, true_and, implies_true]
    · refine wps_skip ?_
      refine hK8 _ _ ?_
      refine hK7 _ _ ?_
      refine wps_region (by rw [hnt]; rfl) 0 ?_
      simp only [↓kOps_app, ↓evOps_nil, ↓evOps_cons, go_sem, Int.reduceAdd, Int.reduceBEq, Int.reduceEq, Int.reduceLE, Int.reduceLT, Int.reduceNe, Int.reduceSub, Int.reduceToNat, Nat.reduceAdd, Nat.reduceBEq, Nat.reduceEqDiff, Nat.reduceLT, Nat.reduceLeDiff, Nat.reduceMul, Nat.reduceSub, reduceCtorEq, reduceIte, hw1]
      repeat (refine And.intro ?_ ?_; · first | rfl | omega | assumption | (simp; done) | (simp; omega) | (intros; omega) | (intros; simp_all; done) | (intros; simp_all; omega) | (and_intros <;> first | rfl | omega | assumption | (simp; done)))
      have hlt : i < n := by
        rcases Nat.lt_or_ge i n with h | h
        · exact h
        · have : i = n := by omega
          subst this; rw [hy] at h2; cases h2
      exact hKL _ _ (ps.length - (i + 1)) _ _ (entL hc0 [some 0, some 1, some 2] rfl rfl (by simp only [go_sem, reduceIte, Nat.reduceEqDiff, Nat.reduceAdd, Nat.reduceLT]) (by simp only [go_sem, reduceIte, Nat.reduceEqDiff, Nat.reduceAdd, Nat.reduceLT])) ⟨i + 1, rfl, by omega, rfl, rfl⟩ (by omega)
  · exact absurd h1 (by simp; omega)

/-- a loop's state: what stays, what is to be written over, what is still to be seen -/
theorem delF_set (F M ps : List Pk) (m p : Pk) : (F ++ (m :: M) ++ (p :: ps)).set F.length p = (F ++ [p]) ++ (M ++ [p]) ++ ps := by
  simp [List.set_append]

theorem delF_none (fr to : Int) (ps : List Pk) (hw : roomy ps) (h : ∀ p ∈ ps, lostB fr to p = false) : CallT Try.prog 20 [.h 0, .fn 21 [.p 1 0, .p 2 0]] [.row 33 3 (ps.map prow), .cells [.u (.i .i64 fr)], .cells [.u (.i .i64 to)]]
    fun r σ => r = .u (.fz (ps.map prow) none) ∧ σ = [.dead, .cells [.u (.i .i64 fr)], .cells [.u (.i .i64 to)]] := by
  have hix := idx_none fr to ps hw h
  refine callT_ofL 42 [.tmp 4] Try.func20 rfl Try.ntmps20 rfl (Nat.le_of_ble_eq_true rfl) fun c hnt hc0 => ?_
  refine wps_seq fun K1 hK1 => ?_
  refine wps_region (by rw [hnt]; rfl) 0 ?_
  simp only [↓kOps_app, ↓evOps_nil, ↓evOps_cons, go_sem, Int.reduceAdd, Int.reduceBEq, Int.reduceEq, Int.reduceLE, Int.reduceLT, Int.reduceNe, Int.reduceSub, Int.reduceToNat, Nat.reduceAdd, Nat.reduceBEq, Nat.reduceEqDiff, Nat.reduceLT, Nat.reduceLeDiff, Nat.reduceMul, Nat.reduceSub, reduceCtorEq, reduceIte]
  repeat (refine And.intro ?_ ?_; · first | rfl | omega | assumption | (simp; done) | (simp; omega) | (intros; omega) | (intros; simp_all; done) | (intros; simp_all; omega) | (and_intros <;> first | rfl | omega | assumption | (simp; done)))
  refine hK1 _ _ ?_
  refine wps_seq fun K2 hK2 => ?_
  refine wps_region (by rw [hnt]; rfl) 0 ?_
  simp only [↓kOps_app, ↓evOps_nil, ↓evOps_cons, go_sem, Int.reduceAdd, Int.reduceBEq, Int.reduceEq, Int.reduceLE, Int.reduceLT, Int.reduceNe, Int.reduceSub, Int.reduceToNat, Nat.reduceAdd, Nat.reduceBEq, Nat.reduceEqDiff, Nat.reduceLT, Nat.reduceLeDiff, Nat.reduceMul, Nat.reduceSub, reduceCtorEq, reduceIte]
  repeat (refine And.intro ?_ ?_; · first | rfl | omega | assumption | (simp; done) | (simp; omega) | (intros; omega) | (intros; simp_all; done) | (intros; simp_all; omega) | (and_intros <;> first | rfl | omega | assumption | (simp; done)))
  refine callT_at [0, 1, 2] [_, _, _] hix rfl rfl ⟨rfl, rfl, rfl, trivial⟩ (by simp only [go_sem, reduceIte, Nat.reduceEqDiff, Nat.reduceAdd, Nat.reduceLT]) (by simp only [go_sem, reduceIte, Nat.reduceEqDiff, Nat.reduceAdd, Nat.reduceLT]) rfl (fun N => by (try simp only [go_sem, reduceIte, Nat.reduceEqDiff, Nat.reduceAdd, Nat.reduceLT]); try rfl) (fun N => by (try simp only [go_sem, reduceIte, Nat.reduceEqDiff, Nat.reduceAdd, Nat.reduceLT]); try rfl) ?_
  simp only [↓kOps_app, ↓evOps_nil, ↓evOps_cons, go_sem, Int.reduceAdd, Int.reduceBEq, Int.reduceEq, Int.reduceLE, Int.reduceLT, Int.reduceNe, Int.reduceSub, Int.reduceToNat, Nat.reduceAdd, Nat.reduceBEq, Nat.reduceEqDiff, Nat.reduceLT, Nat.reduceLeDiff, Nat.reduceMul, Nat.reduceSub, reduceCtorEq, reduceIte]
  repeat (refine And.intro ?_ ?_; · first | rfl | omega | assumption | (simp; done) | (simp; omega) | (intros; omega) | (intros; simp_all; done) | (intros; simp_all; omega) | (and_intros <;> first | rfl | omega | assumption | (simp; done)))
  refine hK2 _ _ ?_
  refine wps_seq fun K3 hK3 => ?_
  refine wps_seq fun K4 hK4 => ?_
  refine wps_region (by rw [hnt]; rfl) 0 ?_
  simp only [↓kOps_app, ↓evOps_nil, ↓evOps_cons, go_sem, Int.reduceAdd, Int.reduceBEq, Int.reduceEq, Int.reduceLE, Int.reduceLT, Int.reduceNe, Int.reduceSub, Int.reduceToNat, Nat.reduceAdd, Nat.reduceBEq, Nat.reduceEqDiff, Nat.reduceLT, Nat.reduceLeDiff, Nat.reduceMul, Nat.reduceSub, reduceCtorEq, reduceIte]
  repeat (refine And.intro ?_ ?_; · first | rfl | omega | assumption | (simp; done) | (simp; omega) | (intros; omega) | (intros; simp_all; done) | (intros; simp_all; omega) | (and_intros <;> first | rfl | omega | assumption | (simp; done)))
  refine hK4 _ _ ?_
  refine wps_cond (b := _) rfl (fun h1 => ?_) (fun h1 => ?_)
  · refine wps_seq fun K5 hK5 => ?_
    refine wps_region (by rw [hnt]; rfl) 0 ?_
    simp only [↓kOps_app, ↓evOps_nil, ↓evOps_cons, go_sem, Int.reduceAdd, Int.reduceBEq, Int.reduceEq, Int.reduceLE, Int.reduceLT, Int.reduceNe, Int.reduceSub, Int.reduceToNat, Nat.reduceAdd, Nat.reduceBEq, Nat.reduceEqDiff, Nat.reduceLT, Nat.reduceLeDiff, Nat.reduceMul, Nat.reduceSub, reduceCtorEq, reduceIte]
    repeat (refine And.intro ?_ ?_; · first | rfl | omega | assumption | (simp; done) | (simp; omega) | (intros; omega) | (intros; simp_all; done) | (intros; simp_all; omega) | (and_intros <;> first | rfl | omega | assumption | (simp; done)))
    refine hK5 _ _ ?_
    refine wps_ent (e' := [(4, .u (.fz (ps.map prow) none))]) (σ' := [.dead, .cells [.u (.i .i64 fr)], .cells [.u (.i .i64 to)]]) ((entF 0 rfl (e' := [(4, .u (.fz (ps.map prow) none))]) (by simp only [go_sem, reduceIte, Nat.reduceEqDiff, Nat.reduceAdd, Nat.reduceLT]) rfl).trans (entL hc0 [some 0, some 1, some 2] rfl rfl (by simp only [go_sem, reduceIte, Nat.reduceEqDiff, Nat.reduceAdd, Nat.reduceLT]) (by simp only [go_sem, reduceIte, Nat.reduceEqDiff, Nat.reduceAdd, Nat.reduceLT]))) ?_
    refine wps_ret ?_
    refine retL [some 0, some 1, some 2] (by simp only [resAll, resSV, ↓kOps_app, ↓evOps_nil, ↓evOps_cons, go_sem, Int.reduceAdd, Int.reduceBEq, Int.reduceEq, Int.reduceLE, Int.reduceLT, Int.reduceNe, Int.reduceSub, Int.reduceToNat, Nat.reduceAdd, Nat.reduceBEq, Nat.reduceEqDiff, Nat.reduceLT, Nat.reduceLeDiff, Nat.reduceMul, Nat.reduceSub, reduceCtorEq, reduceIte]; rfl) (by simp only [resObs, resOb, ↓kOps_app, ↓evOps_nil, ↓evOps_cons, go_sem, Int.reduceAdd, Int.reduceBEq, Int.reduceEq, Int.reduceLE, Int.reduceLT, Int.reduceNe, Int.reduceSub, Int.reduceToNat, Nat.reduceAdd, Nat.reduceBEq, Nat.reduceEqDiff, Nat.reduceLT, Nat.reduceLeDiff, Nat.reduceMul, Nat.reduceSub, reduceCtorEq, reduceIte]) rfl rfl ?_
    simp only [retSV, SV.mv, mvs, subL, List.map_nil, List.map_cons, SObj.mv, posOf, back, List.length_cons, List.length_nil, List.getElem?_cons_zero, List.getElem?_cons_succ, Option.map_some, Nat.reduceAdd, Nat.reduceLT, Nat.zero_add, Nat.lt_add_one, List.getD_cons_zero, List.getD_cons_succ, reduceIte, Nat.reduceEqDiff, Env.get, Env.put, and_true, true_and, implies_true]
  · exact absurd h1 (by simp)

def keptB (fr to : Int) (ps : List Pk) : List Pk := ps.filter fun p => !lostB fr to p

theorem take_succ {ps : List Pk} {j : Nat} (h : j < ps.length) : ps.take (j + 1) = ps.take j ++ [pat ps j] := by
  rw [List.take_succ, List.getElem?_eq_getElem h, pat, List.getD_eq_getElem?_getD, List.getElem?_eq_getElem h]; rfl
theorem drop_at {ps : List Pk} {j : Nat} (h : j < ps.length) : ps.drop j = pat ps j :: ps.drop (j + 1) := by
  rw [List.drop_eq_getElem_cons h, pat, List.getD_eq_getElem?_getD, List.getElem?_eq_getElem h]; rfl

theorem delF_some (fr to : Int) (ps : List Pk) (n : Nat) (hw : roomy ps) (hn : n < ps.length) (h : ∀ j < n, lostB fr to (pat ps j) = false) (hy : lostB fr to (pat ps n) = true) : CallT Try.prog 20 [.h 0, .fn 21 [.p 1 0, .p 2 0]] [.row 33 3 (ps.map prow), .cells [.u (.i .i64 fr)], .cells [.u (.i .i64 to)]]
    fun r σ => r = .u (.fz ((keptB fr to ps).map prow) none) ∧ σ = [.dead, .cells [.u (.i .i64 fr)], .cells [.u (.i .i64 to)]] := by
  have hix := idx_some fr to ps n hw hn h hy
  unfold roomy at hw
  have hwn : IntKind.i64.wrap ((n : Int) + 1) = ((n + 1 : Nat) : Int) := by rw [wrap64 (by omega) (by omega)]; omega
  have hF0 : keptB fr to (ps.take (n + 1)) = ps.take n := by
    rw [take_succ hn]
    unfold keptB
    rw [List.filter_append, List.filter_eq_self.2, List.filter_eq_nil_iff.2]
    · simp
    · intro p hp
      simp at hp; subst hp; simp [hy]
    · intro p hp
      obtain ⟨j, hj⟩ := List.getElem?_of_mem hp
      have hjl := (List.getElem?_eq_some_iff.1 hj).1
      rw [List.length_take] at hjl
      have hjn : j < n := by omega
      rw [List.getElem?_take, if_pos hjn] at hj
      have := h j hjn
      rw [pat, List.getD_eq_getElem?_getD, hj] at this
      simpa using this
  refine callT_ofL 42 [.tmp 4] Try.func20 rfl Try.ntmps20 rfl (Nat.le_of_ble_eq_true rfl) fun c hnt hc0 => ?_
  refine wps_seq fun K1 hK1 => ?_
  refine wps_region (by rw [hnt]; rfl) 0 ?_
  simp only [↓kOps_app, ↓evOps_nil, ↓evOps_cons, go_sem, Int.reduceAdd, Int.reduceBEq, Int.reduceEq, Int.reduceLE, Int.reduceLT, Int.reduceNe, Int.reduceSub, Int.reduceToNat, Nat.reduceAdd, Nat.reduceBEq, Nat.reduceEqDiff, Nat.reduceLT, Nat.reduceLeDiff, Nat.reduceMul, Nat.reduceSub, reduceCtorEq, reduceIte]
  repeat (refine And.intro ?_ ?_; · first | rfl | omega | assumption | (simp; done) | (simp; omega) | (intros; omega) | (intros; simp_all; done) | (intros; simp_all; omega) | (and_intros <;> first | rfl | omega | assumption | (simp; done)))
  refine hK1 _ _ ?_
  refine wps_seq fun K2 hK2 => ?_
  refine wps_region (by rw [hnt]; rfl) 0 ?_
  simp only [↓kOps_app, ↓evOps_nil, ↓evOps_cons, go_sem, Int.reduceAdd, Int.reduceBEq, Int.reduceEq, Int.reduceLE, Int.reduceLT, Int.reduceNe, Int.reduceSub, Int.reduceToNat, Nat.reduceAdd, Nat.reduceBEq, Nat.reduceEqDiff, Nat.reduceLT, Nat.reduceLeDiff, Nat.reduceMul, Nat.reduceSub, reduceCtorEq, reduceIte]
  repeat (refine And.intro ?_ ?_; · first | rfl | omega | assumption | (simp; done) | (simp; omega) | (intros; omega) | (intros; simp_all; done) | (intros; simp_all; omega) | (and_intros <;> first | rfl | omega | assumption | (simp; done)))
  refine callT_at [0, 1, 2] [_, _, _] hix rfl rfl ⟨rfl, rfl, rfl, trivial⟩ (by simp only [go_sem, reduceIte, Nat.reduceEqDiff, Nat.reduceAdd, Nat.reduceLT]) (by simp only [go_sem, reduceIte, Nat.reduceEqDiff, Nat.reduceAdd, Nat.reduceLT]) rfl (fun N => by (try simp only [go_sem, reduceIte, Nat.reduceEqDiff, Nat.reduceAdd, Nat.reduceLT]); try rfl) (fun N => by (try simp only [go_sem, reduceIte, Nat.reduceEqDiff, Nat.reduceAdd, Nat.reduceLT]); try rfl) ?_
  simp only [↓kOps_app, ↓evOps_nil, ↓evOps_cons, go_sem, Int.reduceAdd, Int.reduceBEq, Int.reduceEq, Int.reduceLE, Int.reduceLT, Int.reduceNe, Int.reduceSub, Int.reduceToNat, Nat.reduceAdd, Nat.reduceBEq, Nat.reduceEqDiff, Nat.reduceLT, Nat.reduceLeDiff, Nat.reduceMul, Nat.reduceSub, reduceCtorEq, reduceIte]
  repeat (refine And.intro ?_ ?_; · first | rfl | omega | assumption | (simp; done) | (simp; omega) | (intros; omega) | (intros; simp_all; done) | (intros; simp_all; omega) | (and_intros <;> first | rfl | omega | assumption | (simp; done)))
  refine hK2 _ _ ?_
  refine wps_seq fun K3 hK3 => ?_
  refine wps_seq fun K4 hK4 => ?_
  refine wps_region (by rw [hnt]; rfl) 0 ?_
  simp only [↓kOps_app, ↓evOps_nil, ↓evOps_cons, go_sem, Int.reduceAdd, Int.reduceBEq, Int.reduceEq, Int.reduceLE, Int.reduceLT, Int.reduceNe, Int.reduceSub, Int.reduceToNat, Nat.reduceAdd, Nat.reduceBEq, Nat.reduceEqDiff, Nat.reduceLT, Nat.reduceLeDiff, Nat.reduceMul, Nat.reduceSub, reduceCtorEq, reduceIte]
  repeat (refine And.intro ?_ ?_; · first | rfl | omega | assumption | (simp; done) | (simp; omega) | (intros; omega) | (intros; simp_all; done) | (intros; simp_all; omega) | (and_intros <;> first | rfl | omega | assumption | (simp; done)))
  refine hK4 _ _ ?_
  refine wps_cond (b := _) rfl (fun h1 => ?_) (fun h1 => ?_)
  · exact absurd h1 (by simp)
  · refine wps_skip ?_
    refine hK3 _ _ ?_
    refine wps_seq fun K5 hK5 => ?_
    refine wps_seq fun K6 hK6 => ?_
    refine wps_region (by rw [hnt]; rfl) 0 ?_
    simp only [↓kOps_app, ↓evOps_nil, ↓evOps_cons, go_sem, Int.reduceAdd, Int.reduceBEq, Int.reduceEq, Int.reduceLE, Int.reduceLT, Int.reduceNe, Int.reduceSub, Int.reduceToNat, Nat.reduceAdd, Nat.reduceBEq, Nat.reduceEqDiff, Nat.reduceLT, Nat.reduceLeDiff, Nat.reduceMul, Nat.reduceSub, reduceCtorEq, reduceIte, hwn]
    repeat (refine And.intro ?_ ?_; · first | rfl | omega | assumption | (simp; done) | (simp; omega) | (intros; omega) | (intros; simp_all; done) | (intros; simp_all; omega) | (and_intros <;> first | rfl | omega | assumption | (simp; done)))
    refine hK6 _ _ ?_
    refine wps_blk fun K7 hK7 => ?_
    refine wps_loop (fun k e σ => ∃ (j f : Nat) (F M X : List Pk), f = F.length ∧ k = ps.length - j ∧ j ≤ ps.length ∧ F = keptB fr to (ps.take j) ∧ F.length + M.length = j ∧ M ≠ [] ∧ X = F ++ M ++ ps.drop j ∧ e = [(0, .h 0), (1, .fn 21 [.p 1 0, .p 2 0]), (5, .u (.i .i64 f)), (6, .u (.i .i64 j))] ∧ σ = [.row 33 3 (X.map prow), .cells [.u (.i .i64 fr)], .cells [.u (.i .i64 to)]])
      (e0 := [(0, .h 0), (1, .fn 21 [.p 1 0, .p 2 0]), (5, .u (.i .i64 n)), (6, .u (.i .i64 ((n + 1 : Nat) : Int)))]) (σ0 := [.row 33 3 (ps.map prow), .cells [.u (.i .i64 fr)], .cells [.u (.i .i64 to)]])
      (entL hc0 [some 0, some 1, some 2] rfl rfl (by simp only [go_sem, reduceIte, Nat.reduceEqDiff, Nat.reduceAdd, Nat.reduceLT]) (by simp only [go_sem, reduceIte, Nat.reduceEqDiff, Nat.reduceAdd, Nat.reduceLT])) ⟨n + 1, n, ps.take n, [pat ps n], ps, by simp; omega, rfl, by omega, hF0.symm, by simp; omega, by simp, by rw [← take_succ hn, List.take_append_drop], rfl, rfl⟩ fun KL k e1 σ1 hI hKL => ?_
    obtain ⟨j, f, F, M, X, rfl, rfl, hj, hF, hFM, hM, hX, rfl, rfl⟩ := hI
    have hXl : X.length = ps.length := by rw [hX]; simp; omega
    refine wps_seq fun K8 hK8 => ?_
    refine wps_seq fun K9 hK9 => ?_
    refine wps_region (by rw [hnt]; rfl) 0 ?_
    simp only [↓kOps_app, ↓evOps_nil, ↓evOps_cons, go_sem, Int.reduceAdd, Int.reduceBEq, Int.reduceEq, Int.reduceLE, Int.reduceLT, Int.reduceNe, Int.reduceSub, Int.reduceToNat, Nat.reduceAdd, Nat.reduceBEq, Nat.reduceEqDiff, Nat.reduceLT, Nat.reduceLeDiff, Nat.reduceMul, Nat.reduceSub, reduceCtorEq, reduceIte, hXl]
    repeat (refine And.intro ?_ ?_; · first | rfl | omega | assumption | (simp; done) | (simp; omega) | (intros; omega) | (intros; simp_all; done) | (intros; simp_all; omega) | (and_intros <;> first | rfl | omega | assumption | (simp; done)))
    refine hK9 _ _ ?_
    refine wps_cond (b := _) rfl (fun h2 => ?_) (fun h2 => ?_)
    · simp at h2
      obtain ⟨m, M', rfl⟩ : ∃ m M', M = m :: M' := by cases M with | nil => exact absurd rfl hM | cons m M' => exact ⟨m, M', rfl⟩
      have hpj : pat X j = pat ps j := by
        rw [pat, hX, List.getD_eq_getElem?_getD, List.getElem?_append_right (by simp; simp at hFM; omega)]
        rw [show j - (F ++ m :: M').length = 0 by simp at hFM ⊢; omega, List.getElem?_drop, pat, List.getD_eq_getElem?_getD]; rfl
      have hel := prow_at (ps := X) (i := j) (by omega)
      rw [hpj] at hel
      have hgi := prow_at (ps := X) (i := F.length) (by simp at hFM; omega)
      have hset : (X.map prow).set F.length [.i .i64 (pat ps j).1, .i .i64 (pat ps j).2.1, .s (pat ps j).2.2] = ((F ++ [pat ps j]) ++ (M' ++ [pat ps j]) ++ ps.drop (j + 1)).map prow := by
        rw [← delF_set F M' (ps.drop (j + 1)) m (pat ps j), ← drop_at h2, ← hX, List.map_set]; rfl
      have hw1 : IntKind.i64.wrap ((j : Int) + 1) = ((j + 1 : Nat) : Int) := by rw [wrap64 (by omega) (by omega)]; omega
      have hw2 : IntKind.i64.wrap ((F.length : Int) + 1) = ((F.length + 1 : Nat) : Int) := by rw [wrap64 (by simp at hFM; omega) (by simp at hFM; omega)]; omega
      have hf := lostF_ok fr to (pat ps j)
      have hkt : keptB fr to (ps.take (j + 1)) = F ++ keptB fr to [pat ps j] := by rw [take_succ h2, keptB, List.filter_append, hF]; rfl
      simp at hFM
      refine wps_skip ?_
      refine hK8 _ _ ?_
      refine wps_seq fun K10 hK10 => ?_
      refine wps_blk fun K11 hK11 => ?_
      refine wps_seq fun K12 hK12 => ?_
      refine wps_region (by rw [hnt]; rfl) 1 ?_
      simp only [↓kOps_app, ↓evOps_nil, ↓evOps_cons, go_sem, Int.reduceAdd, Int.reduceBEq, Int.reduceEq, Int.reduceLE, Int.reduceLT, Int.reduceNe, Int.reduceSub, Int.reduceToNat, Nat.reduceAdd, Nat.reduceBEq, Nat.reduceEqDiff, Nat.reduceLT, Nat.reduceLeDiff, Nat.reduceMul, Nat.reduceSub, reduceCtorEq, reduceIte, hel]
      repeat (refine And.intro ?_ ?_; · first | rfl | omega | assumption | (simp; done) | (simp; omega) | (intros; omega) | (intros; simp_all; done) | (intros; simp_all; omega) | (and_intros <;> first | rfl | omega | assumption | (simp; done)))
      refine hK12 _ _ ?_
      refine wps_seq fun K13 hK13 => ?_
      refine wps_region (by rw [hnt]; rfl) 0 ?_
      simp only [↓kOps_app, ↓evOps_nil, ↓evOps_cons, go_sem, Int.reduceAdd, Int.reduceBEq, Int.reduceEq, Int.reduceLE, Int.reduceLT, Int.reduceNe, Int.reduceSub, Int.reduceToNat, Nat.reduceAdd, Nat.reduceBEq, Nat.reduceEqDiff, Nat.reduceLT, Nat.reduceLeDiff, Nat.reduceMul, Nat.reduceSub, reduceCtorEq, reduceIte]
      repeat (refine And.intro ?_ ?_; · first | rfl | omega | assumption | (simp; done) | (simp; omega) | (intros; omega) | (intros; simp_all; done) | (intros; simp_all; omega) | (and_intros <;> first | rfl | omega | assumption | (simp; done)))
      refine callT_at [1, 2] [_, _] hf rfl rfl ⟨rfl, rfl, trivial⟩ (by simp only [go_sem, reduceIte, Nat.reduceEqDiff, Nat.reduceAdd, Nat.reduceLT]) (by simp only [go_sem, reduceIte, Nat.reduceEqDiff, Nat.reduceAdd, Nat.reduceLT]) rfl (fun N => by (try simp only [go_sem, reduceIte, Nat.reduceEqDiff, Nat.reduceAdd, Nat.reduceLT]); try rfl) (fun N => by (try simp only [go_sem, reduceIte, Nat.reduceEqDiff, Nat.reduceAdd, Nat.reduceLT]); try rfl) ?_
      simp only [↓kOps_app, ↓evOps_nil, ↓evOps_cons, go_sem, Int.reduceAdd, Int.reduceBEq, Int.reduceEq, Int.reduceLE, Int.reduceLT, Int.reduceNe, Int.reduceSub, Int.reduceToNat, Nat.reduceAdd, Nat.reduceBEq, Nat.reduceEqDiff, Nat.reduceLT, Nat.reduceLeDiff, Nat.reduceMul, Nat.reduceSub, reduceCtorEq, reduceIte]
      repeat (refine And.intro ?_ ?_; · first | rfl | omega | assumption | (simp; done) | (simp; omega) | (intros; omega) | (intros; simp_all; done) | (intros; simp_all; omega) | (and_intros <;> first | rfl | omega | assumption | (simp; done)))
      refine hK13 _ _ ?_
      refine wps_cond (b := _) rfl (fun h3 => ?_) (fun h3 => ?_)
      · refine wps_seq fun K14 hK14 => ?_
        refine wps_region (by rw [hnt]; rfl) 0 ?_
        simp only [↓kOps_app, ↓evOps_nil, ↓evOps_cons, go_sem, Int.reduceAdd, Int.reduceBEq, Int.reduceEq, Int.reduceLE, Int.reduceLT, Int.reduceNe, Int.reduceSub, Int.reduceToNat, Nat.reduceAdd, Nat.reduceBEq, Nat.reduceEqDiff, Nat.reduceLT, Nat.reduceLeDiff, Nat.reduceMul, Nat.reduceSub, reduceCtorEq, reduceIte, hgi, hset]
        repeat (refine And.intro ?_ ?_; · first | rfl | omega | assumption | (simp; done) | (simp; omega) | (intros; omega) | (intros; simp_all; done) | (intros; simp_all; omega) | (and_intros <;> first | rfl | omega | assumption | (simp; done)))
        refine hK14 _ _ ?_
        refine wps_region (by rw [hnt]; rfl) 0 ?_
        simp only [↓kOps_app, ↓evOps_nil, ↓evOps_cons, go_sem, Int.reduceAdd, Int.reduceBEq, Int.reduceEq, Int.reduceLE, Int.reduceLT, Int.reduceNe, Int.reduceSub, Int.reduceToNat, Nat.reduceAdd, Nat.reduceBEq, Nat.reduceEqDiff, Nat.reduceLT, Nat.reduceLeDiff, Nat.reduceMul, Nat.reduceSub, reduceCtorEq, reduceIte, hw2]
        repeat (refine And.intro ?_ ?_; · first | rfl | omega | assumption | (simp; done) | (simp; omega) | (intros; omega) | (intros; simp_all; done) | (intros; simp_all; omega) | (and_intros <;> first | rfl | omega | assumption | (simp; done)))
        refine hK11 _ _ ?_
        refine hK10 _ _ ?_
        refine wps_region (by rw [hnt]; rfl) 0 ?_
        simp only [↓kOps_app, ↓evOps_nil, ↓evOps_cons, go_sem, Int.reduceAdd, Int.reduceBEq, Int.reduceEq, Int.reduceLE, Int.reduceLT, Int.reduceNe, Int.reduceSub, Int.reduceToNat, Nat.reduceAdd, Nat.reduceBEq, Nat.reduceEqDiff, Nat.reduceLT, Nat.reduceLeDiff, Nat.reduceMul, Nat.reduceSub, reduceCtorEq, reduceIte, hw1]
        repeat (refine And.intro ?_ ?_; · first | rfl | omega | assumption | (simp; done) | (simp; omega) | (intros; omega) | (intros; simp_all; done) | (intros; simp_all; omega) | (and_intros <;> first | rfl | omega | assumption | (simp; done)))
        have h3' : lostB fr to (pat ps j) = false := by simpa using h3
        exact hKL _ _ (ps.length - (j + 1)) _ _ (entL hc0 [some 0, some 1, some 2] rfl rfl (by simp only [go_sem, reduceIte, Nat.reduceEqDiff, Nat.reduceAdd, Nat.reduceLT]) (by simp only [go_sem, reduceIte, Nat.reduceEqDiff, Nat.reduceAdd, Nat.reduceLT])) ⟨j + 1, F.length + 1, F ++ [pat ps j], M' ++ [pat ps j], _, by simp, rfl, by omega, by rw [hkt]; simp [keptB, h3'], by simp; omega, by simp, rfl, rfl, rfl⟩ (by omega)
      · refine wps_skip ?_
        refine hK11 _ _ ?_
        refine hK10 _ _ ?_
        refine wps_region (by rw [hnt]; rfl) 0 ?_
        simp only [↓kOps_app, ↓evOps_nil, ↓evOps_cons, go_sem, Int.reduceAdd, Int.reduceBEq, Int.reduceEq, Int.reduceLE, Int.reduceLT, Int.reduceNe, Int.reduceSub, Int.reduceToNat, Nat.reduceAdd, Nat.reduceBEq, Nat.reduceEqDiff, Nat.reduceLT, Nat.reduceLeDiff, Nat.reduceMul, Nat.reduceSub, reduceCtorEq, reduceIte, hw1]
        repeat (refine And.intro ?_ ?_; · first | rfl | omega | assumption | (simp; done) | (simp; omega) | (intros; omega) | (intros; simp_all; done) | (intros; simp_all; omega) | (and_intros <;> first | rfl | omega | assumption | (simp; done)))
        have h3' : lostB fr to (pat ps j) = true := by simpa using h3
        exact hKL _ _ (ps.length - (j + 1)) _ _ (entL hc0 [some 0, some 1, some 2] rfl rfl (by simp only [go_sem, reduceIte, Nat.reduceEqDiff, Nat.reduceAdd, Nat.reduceLT]) (by simp only [go_sem, reduceIte, Nat.reduceEqDiff, Nat.reduceAdd, Nat.reduceLT])) ⟨j + 1, F.length, F, (m :: M') ++ [pat ps j], X, rfl, rfl, by omega, by rw [hkt]; simp [keptB, h3'], by simp; omega, by simp, by rw [hX, drop_at h2]; simp, rfl, rfl⟩ (by omega)
    · simp at h2
      have hjn : j = ps.length := by omega
      subst hjn
      rw [List.take_length] at hF
      have hXF : X.take F.length = F := by rw [hX, List.append_assoc, List.take_left']; rfl
      refine wps_exit ?_
      simp only [reduceIte, Nat.reduceEqDiff]
      refine hK7 _ _ ?_
      refine hK5 _ _ ?_
      refine wps_seq fun K15 hK15 => ?_
      refine wps_region (by rw [hnt]; rfl) 0 ?_
      simp only [↓kOps_app, ↓evOps_nil, ↓evOps_cons, go_sem, Int.reduceAdd, Int.reduceBEq, Int.reduceEq, Int.reduceLE, Int.reduceLT, Int.reduceNe, Int.reduceSub, Int.reduceToNat, Nat.reduceAdd, Nat.reduceBEq, Nat.reduceEqDiff, Nat.reduceLT, Nat.reduceLeDiff, Nat.reduceMul, Nat.reduceSub, reduceCtorEq, reduceIte, hXl]
      repeat (refine And.intro ?_ ?_; · first | rfl | omega | assumption | (simp; done) | (simp; omega) | (intros; omega) | (intros; simp_all; done) | (intros; simp_all; omega) | (and_intros <;> first | rfl | omega | assumption | (simp; done)))
      refine hK15 _ _ ?_
      refine wps_seq fun K16 hK16 => ?_
      refine wps_region (by rw [hnt]; rfl) 0 ?_
      simp only [↓kOps_app, ↓evOps_nil, ↓evOps_cons, go_sem, Int.reduceAdd, Int.reduceBEq, Int.reduceEq, Int.reduceLE, Int.reduceLT, Int.reduceNe, Int.reduceSub, Int.reduceToNat, Nat.reduceAdd, Nat.reduceBEq, Nat.reduceEqDiff, Nat.reduceLT, Nat.reduceLeDiff, Nat.reduceMul, Nat.reduceSub, reduceCtorEq, reduceIte]
      repeat (refine And.intro ?_ ?_; · first | rfl | omega | assumption | (simp; done) | (simp; omega) | (intros; omega) | (intros; simp_all; done) | (intros; simp_all; omega) | (and_intros <;> first | rfl | omega | assumption | (simp; done)))
      refine hK16 _ _ ?_
      refine wps_ent (e' := [(4, .u (.fz ((keptB fr to ps).map prow) none))]) (σ' := [.dead, .cells [.u (.i .i64 fr)], .cells [.u (.i .i64 to)]]) ((entF 0 rfl (e' := [(4, .u (.fz ((keptB fr to ps).map prow) none))]) ⟨?_, trivial⟩ rfl).trans (entL hc0 [some 0, some 1, some 2] rfl rfl (by simp only [go_sem, reduceIte, Nat.reduceEqDiff, Nat.reduceAdd, Nat.reduceLT]) (by simp only [go_sem, reduceIte, Nat.reduceEqDiff, Nat.reduceAdd, Nat.reduceLT]))) ?_
      · simp only [go_sem, reduceIte]
        rw [if_pos (by simp; omega), List.take_append_of_le_length (by simp; omega), List.take_of_length_le (by simp; omega), ← List.map_take, hXF, hF]
      refine wps_ret ?_
      refine retL [some 0, some 1, some 2] (by simp only [resAll, resSV, ↓kOps_app, ↓evOps_nil, ↓evOps_cons, go_sem, Int.reduceAdd, Int.reduceBEq, Int.reduceEq, Int.reduceLE, Int.reduceLT, Int.reduceNe, Int.reduceSub, Int.reduceToNat, Nat.reduceAdd, Nat.reduceBEq, Nat.reduceEqDiff, Nat.reduceLT, Nat.reduceLeDiff, Nat.reduceMul, Nat.reduceSub, reduceCtorEq, reduceIte]; rfl) (by simp only [resObs, resOb, ↓kOps_app, ↓evOps_nil, ↓evOps_cons, go_sem, Int.reduceAdd, Int.reduceBEq, Int.reduceEq, Int.reduceLE, Int.reduceLT, Int.reduceNe, Int.reduceSub, Int.reduceToNat, Nat.reduceAdd, Nat.reduceBEq, Nat.reduceEqDiff, Nat.reduceLT, Nat.reduceLeDiff, Nat.reduceMul, Nat.reduceSub, reduceCtorEq, reduceIte]) rfl rfl ?_
      simp only [retSV, SV.mv, mvs, subL, List.map_nil, List.map_cons, SObj.mv, posOf, back, List.length_cons, List.length_nil, List.getElem?_cons_zero, List.getElem?_cons_succ, Option.map_some, Nat.reduceAdd, Nat.reduceLT, Nat.zero_add, Nat.lt_add_one, List.getD_cons_zero, List.getD_cons_succ, reduceIte, Nat.reduceEqDiff, Env.get, Env.put, and_true, true_and, implies_true]
end Go.Proofs.Yteoihmgigmiajaa
