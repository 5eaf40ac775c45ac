import Derived.Test.YteoihmgigmiajaaB4
set_option linter.all false
set_option linter.unusedSimpArgs false
set_option linter.unusedVariables false
namespace Go.Proofs.Yteoihmgigmiajaa
open Go.Nm

set_option maxHeartbeats 4000000 in
set_option maxRecDepth 8000 in
theorem awake_ok : CallT Try.prog 7 [] [] fun r σ => r = .u (.b true) ∧ σ = [] := by
  have hn := new_ok 2 (by decide)
  have c1 := put_ok 2 [] [(1, 2, [120]), (0, 0, [121]), (0, 0, [122])] (some 0) (some 3) (by decide) (by decide) (by decide)
  have c2 := take_ok 2 [(1, 2, [120]), (0, 0, [121])] none 0 (by unfold roomy; decide) (by decide)
  have c3 := copy_ok 2 [(0, 0, [121])] none 0 (by decide) (by decide) (by decide)
  have c4 := copy_full 2 [(0, 0, [121]), (0, 0, [121])] none 0 (by decide) rfl (by decide)
  have c5 := left_ok 2 [(0, 0, [121]), (0, 0, [121])] none (by decide) (by decide)
  have c6 := lose_ok 2 [(0, 0, [121]), (0, 0, [121])] none (-1) (-1) (by unfold roomy; decide)
  have c7 := len_ok 2 [] none
  have e1 : (min [((1 : Int), (2 : Int), [(120 : UInt8)]), (0, 0, [121]), (0, 0, [122])].length (2 - ([] : List Pk).length)) = 2 := rfl
  have e2 : keptB (-1) (-1) [(0, 0, [121]), (0, 0, [121])] = [] := rfl
  have e3 : ((2 : Nat) : Int) = 2 := rfl
  have e4 : ((0 : Nat) : Int) = 0 := rfl
  rw [e1] at c1
  rw [e2] at c6
  simp only [bagC, List.map_cons, List.map_nil, prow, List.nil_append, List.take_succ_cons, List.take_zero, List.drop_succ_cons, List.drop_zero, List.cons_append, pat, List.getD_cons_zero, List.length_cons, List.length_nil, Nat.reduceAdd, Nat.reduceSub, e3, e4] at hn c1 c2 c3 c4 c5 c6 c7
  refine callT_ofL 67 [.tmp 0] Try.func7 rfl Try.ntmps7 rfl (Nat.le_of_ble_eq_true rfl) fun c hnt hc0 => ?_
  refine wps_seq fun K1 hK1 => ?_
  refine wps_region (by rw [hnt]; rfl) 0 ?_
  simp only [↓kOps_app, ↓evOps_nil, ↓evOps_cons, go_sem, Int.reduceAdd, Int.reduceBEq, Int.reduceEq, Int.reduceLE, Int.reduceLT, Int.reduceNe, Int.reduceSub, Int.reduceToNat, Nat.reduceAdd, Nat.reduceBEq, Nat.reduceEqDiff, Nat.reduceLT, Nat.reduceLeDiff, Nat.reduceMul, Nat.reduceSub, reduceCtorEq, reduceIte]
  repeat (refine And.intro ?_ ?_; · first | rfl | omega | assumption | (simp; done) | (simp; omega) | (intros; omega) | (intros; simp_all; done) | (intros; simp_all; omega) | (and_intros <;> first | rfl | omega | assumption | (simp; done)))
  refine hK1 _ _ ?_
  refine wps_seq fun K2 hK2 => ?_
  refine wps_region (by rw [hnt]; rfl) 0 ?_
  simp only [↓kOps_app, ↓evOps_nil, ↓evOps_cons, go_sem, Int.reduceAdd, Int.reduceBEq, Int.reduceEq, Int.reduceLE, Int.reduceLT, Int.reduceNe, Int.reduceSub, Int.reduceToNat, Nat.reduceAdd, Nat.reduceBEq, Nat.reduceEqDiff, Nat.reduceLT, Nat.reduceLeDiff, Nat.reduceMul, Nat.reduceSub, reduceCtorEq, reduceIte]
  repeat (refine And.intro ?_ ?_; · first | rfl | omega | assumption | (simp; done) | (simp; omega) | (intros; omega) | (intros; simp_all; done) | (intros; simp_all; omega) | (and_intros <;> first | rfl | omega | assumption | (simp; done)))
  refine callT_new hn (by simp only [go_sem, reduceIte, Nat.reduceEqDiff, Nat.reduceAdd, Nat.reduceLT]) ?_
  simp only [retSV, SV.mv, mvs, subL, List.map_nil, List.map_cons, SObj.mv, posOf, back, List.length_cons, List.length_nil, List.getElem?_cons_zero, List.getElem?_cons_succ, Option.map_some, Nat.reduceAdd, Nat.reduceLT, Nat.zero_add, Nat.lt_add_one, List.getD_cons_zero, List.getD_cons_succ, reduceIte, Nat.reduceEqDiff, Env.get, Env.put, and_true, true_and, implies_true, Nat.not_lt_zero, Nat.sub_zero]
  simp only [↓kOps_app, ↓evOps_nil, ↓evOps_cons, go_sem, Int.reduceAdd, Int.reduceBEq, Int.reduceEq, Int.reduceLE, Int.reduceLT, Int.reduceNe, Int.reduceSub, Int.reduceToNat, Nat.reduceAdd, Nat.reduceBEq, Nat.reduceEqDiff, Nat.reduceLT, Nat.reduceLeDiff, Nat.reduceMul, Nat.reduceSub, reduceCtorEq, reduceIte]
  repeat (refine And.intro ?_ ?_; · first | rfl | omega | assumption | (simp; done) | (simp; omega) | (intros; omega) | (intros; simp_all; done) | (intros; simp_all; omega) | (and_intros <;> first | rfl | omega | assumption | (simp; done)))
  refine hK2 _ _ ?_
  refine wps_seq fun K3 hK3 => ?_
  refine wps_seq fun K4 hK4 => ?_
  refine wps_region (by rw [hnt]; rfl) 0 ?_
  simp only [↓kOps_app, ↓evOps_nil, ↓evOps_cons, go_sem, Int.reduceAdd, Int.reduceBEq, Int.reduceEq, Int.reduceLE, Int.reduceLT, Int.reduceNe, Int.reduceSub, Int.reduceToNat, Nat.reduceAdd, Nat.reduceBEq, Nat.reduceEqDiff, Nat.reduceLT, Nat.reduceLeDiff, Nat.reduceMul, Nat.reduceSub, reduceCtorEq, reduceIte]
  repeat (refine And.intro ?_ ?_; · first | rfl | omega | assumption | (simp; done) | (simp; omega) | (intros; omega) | (intros; simp_all; done) | (intros; simp_all; omega) | (and_intros <;> first | rfl | omega | assumption | (simp; done)))
  refine hK4 _ _ ?_
  refine wps_cond (b := _) rfl (fun h1 => ?_) (fun h1 => ?_)
  · exact absurd h1 (by simp)
  · refine wps_skip ?_
    refine hK3 _ _ ?_
    refine wps_seq fun K5 hK5 => ?_
    refine wps_region (by rw [hnt]; rfl) 0 ?_
    simp only [↓kOps_app, ↓evOps_nil, ↓evOps_cons, go_sem, Int.reduceAdd, Int.reduceBEq, Int.reduceEq, Int.reduceLE, Int.reduceLT, Int.reduceNe, Int.reduceSub, Int.reduceToNat, Nat.reduceAdd, Nat.reduceBEq, Nat.reduceEqDiff, Nat.reduceLT, Nat.reduceLeDiff, Nat.reduceMul, Nat.reduceSub, reduceCtorEq, reduceIte]
    repeat (refine And.intro ?_ ?_; · first | rfl | omega | assumption | (simp; done) | (simp; omega) | (intros; omega) | (intros; simp_all; done) | (intros; simp_all; omega) | (and_intros <;> first | rfl | omega | assumption | (simp; done)))
    refine callT_at [0] [_] c1 rfl rfl ⟨rfl, trivial⟩ (by simp only [go_sem, reduceIte, Nat.reduceEqDiff, Nat.reduceAdd, Nat.reduceLT]) (by simp only [go_sem, reduceIte, Nat.reduceEqDiff, Nat.reduceAdd, Nat.reduceLT]) rfl (fun N => by (try simp only [go_sem, reduceIte, Nat.reduceEqDiff, Nat.reduceAdd, Nat.reduceLT]); try rfl) (fun N => by (try simp only [go_sem, reduceIte, Nat.reduceEqDiff, Nat.reduceAdd, Nat.reduceLT]); try rfl) ?_
    simp only [↓kOps_app, ↓evOps_nil, ↓evOps_cons, go_sem, Int.reduceAdd, Int.reduceBEq, Int.reduceEq, Int.reduceLE, Int.reduceLT, Int.reduceNe, Int.reduceSub, Int.reduceToNat, Nat.reduceAdd, Nat.reduceBEq, Nat.reduceEqDiff, Nat.reduceLT, Nat.reduceLeDiff, Nat.reduceMul, Nat.reduceSub, reduceCtorEq, reduceIte]
    repeat (refine And.intro ?_ ?_; · first | rfl | omega | assumption | (simp; done) | (simp; omega) | (intros; omega) | (intros; simp_all; done) | (intros; simp_all; omega) | (and_intros <;> first | rfl | omega | assumption | (simp; done)))
    refine hK5 _ _ ?_
    refine wps_seq fun K6 hK6 => ?_
    refine wps_region (by rw [hnt]; rfl) 1 ?_
    simp only [↓kOps_app, ↓evOps_nil, ↓evOps_cons, go_sem, Int.reduceAdd, Int.reduceBEq, Int.reduceEq, Int.reduceLE, Int.reduceLT, Int.reduceNe, Int.reduceSub, Int.reduceToNat, Nat.reduceAdd, Nat.reduceBEq, Nat.reduceEqDiff, Nat.reduceLT, Nat.reduceLeDiff, Nat.reduceMul, Nat.reduceSub, reduceCtorEq, reduceIte]
    repeat (refine And.intro ?_ ?_; · first | rfl | omega | assumption | (simp; done) | (simp; omega) | (intros; omega) | (intros; simp_all; done) | (intros; simp_all; omega) | (and_intros <;> first | rfl | omega | assumption | (simp; done)))
    refine callT_at [0] [_] c2 rfl rfl ⟨rfl, trivial⟩ (by simp only [go_sem, reduceIte, Nat.reduceEqDiff, Nat.reduceAdd, Nat.reduceLT]) (by simp only [go_sem, reduceIte, Nat.reduceEqDiff, Nat.reduceAdd, Nat.reduceLT]) rfl (fun N => by (try simp only [go_sem, reduceIte, Nat.reduceEqDiff, Nat.reduceAdd, Nat.reduceLT]); try rfl) (fun N => by (try simp only [go_sem, reduceIte, Nat.reduceEqDiff, Nat.reduceAdd, Nat.reduceLT]); try rfl) ?_
    simp only [↓kOps_app, ↓evOps_nil, ↓evOps_cons, go_sem, Int.reduceAdd, Int.reduceBEq, Int.reduceEq, Int.reduceLE, Int.reduceLT, Int.reduceNe, Int.reduceSub, Int.reduceToNat, Nat.reduceAdd, Nat.reduceBEq, Nat.reduceEqDiff, Nat.reduceLT, Nat.reduceLeDiff, Nat.reduceMul, Nat.reduceSub, reduceCtorEq, reduceIte]
    repeat (refine And.intro ?_ ?_; · first | rfl | omega | assumption | (simp; done) | (simp; omega) | (intros; omega) | (intros; simp_all; done) | (intros; simp_all; omega) | (and_intros <;> first | rfl | omega | assumption | (simp; done)))
    refine hK6 _ _ ?_
    refine wps_seq fun K7 hK7 => ?_
    refine wps_region (by rw [hnt]; rfl) 0 ?_
    simp only [↓kOps_app, ↓evOps_nil, ↓evOps_cons, go_sem, Int.reduceAdd, Int.reduceBEq, Int.reduceEq, Int.reduceLE, Int.reduceLT, Int.reduceNe, Int.reduceSub, Int.reduceToNat, Nat.reduceAdd, Nat.reduceBEq, Nat.reduceEqDiff, Nat.reduceLT, Nat.reduceLeDiff, Nat.reduceMul, Nat.reduceSub, reduceCtorEq, reduceIte]
    repeat (refine And.intro ?_ ?_; · first | rfl | omega | assumption | (simp; done) | (simp; omega) | (intros; omega) | (intros; simp_all; done) | (intros; simp_all; omega) | (and_intros <;> first | rfl | omega | assumption | (simp; done)))
    refine callT_at [0] [_] c3 rfl rfl ⟨rfl, trivial⟩ (by simp only [go_sem, reduceIte, Nat.reduceEqDiff, Nat.reduceAdd, Nat.reduceLT]) (by simp only [go_sem, reduceIte, Nat.reduceEqDiff, Nat.reduceAdd, Nat.reduceLT]) rfl (fun N => by (try simp only [go_sem, reduceIte, Nat.reduceEqDiff, Nat.reduceAdd, Nat.reduceLT]); try rfl) (fun N => by (try simp only [go_sem, reduceIte, Nat.reduceEqDiff, Nat.reduceAdd, Nat.reduceLT]); try rfl) ?_
    simp only [↓kOps_app, ↓evOps_nil, ↓evOps_cons, go_sem, Int.reduceAdd, Int.reduceBEq, Int.reduceEq, Int.reduceLE, Int.reduceLT, Int.reduceNe, Int.reduceSub, Int.reduceToNat, Nat.reduceAdd, Nat.reduceBEq, Nat.reduceEqDiff, Nat.reduceLT, Nat.reduceLeDiff, Nat.reduceMul, Nat.reduceSub, reduceCtorEq, reduceIte]
    repeat (refine And.intro ?_ ?_; · first | rfl | omega | assumption | (simp; done) | (simp; omega) | (intros; omega) | (intros; simp_all; done) | (intros; simp_all; omega) | (and_intros <;> first | rfl | omega | assumption | (simp; done)))
    refine callT_at [0] [_] c4 rfl rfl ⟨rfl, trivial⟩ (by simp only [go_sem, reduceIte, Nat.reduceEqDiff, Nat.reduceAdd, Nat.reduceLT]) (by simp only [go_sem, reduceIte, Nat.reduceEqDiff, Nat.reduceAdd, Nat.reduceLT]) rfl (fun N => by (try simp only [go_sem, reduceIte, Nat.reduceEqDiff, Nat.reduceAdd, Nat.reduceLT]); try rfl) (fun N => by (try simp only [go_sem, reduceIte, Nat.reduceEqDiff, Nat.reduceAdd, Nat.reduceLT]); try rfl) ?_
    simp only [↓kOps_app, ↓evOps_nil, ↓evOps_cons, go_sem, Int.reduceAdd, Int.reduceBEq, Int.reduceEq, Int.reduceLE, Int.reduceLT, Int.reduceNe, Int.reduceSub, Int.reduceToNat, Nat.reduceAdd, Nat.reduceBEq, Nat.reduceEqDiff, Nat.reduceLT, Nat.reduceLeDiff, Nat.reduceMul, Nat.reduceSub, reduceCtorEq, reduceIte]
    repeat (refine And.intro ?_ ?_; · first | rfl | omega | assumption | (simp; done) | (simp; omega) | (intros; omega) | (intros; simp_all; done) | (intros; simp_all; omega) | (and_intros <;> first | rfl | omega | assumption | (simp; done)))
    refine hK7 _ _ ?_
    refine wps_seq fun K8 hK8 => ?_
    refine wps_region (by rw [hnt]; rfl) 0 ?_
    simp only [↓kOps_app, ↓evOps_nil, ↓evOps_cons, go_sem, Int.reduceAdd, Int.reduceBEq, Int.reduceEq, Int.reduceLE, Int.reduceLT, Int.reduceNe, Int.reduceSub, Int.reduceToNat, Nat.reduceAdd, Nat.reduceBEq, Nat.reduceEqDiff, Nat.reduceLT, Nat.reduceLeDiff, Nat.reduceMul, Nat.reduceSub, reduceCtorEq, reduceIte]
    repeat (refine And.intro ?_ ?_; · first | rfl | omega | assumption | (simp; done) | (simp; omega) | (intros; omega) | (intros; simp_all; done) | (intros; simp_all; omega) | (and_intros <;> first | rfl | omega | assumption | (simp; done)))
    refine callT_at [0] [_] c5 rfl rfl ⟨rfl, trivial⟩ (by simp only [go_sem, reduceIte, Nat.reduceEqDiff, Nat.reduceAdd, Nat.reduceLT]) (by simp only [go_sem, reduceIte, Nat.reduceEqDiff, Nat.reduceAdd, Nat.reduceLT]) rfl (fun N => by (try simp only [go_sem, reduceIte, Nat.reduceEqDiff, Nat.reduceAdd, Nat.reduceLT]); try rfl) (fun N => by (try simp only [go_sem, reduceIte, Nat.reduceEqDiff, Nat.reduceAdd, Nat.reduceLT]); try rfl) ?_
    simp only [↓kOps_app, ↓evOps_nil, ↓evOps_cons, go_sem, Int.reduceAdd, Int.reduceBEq, Int.reduceEq, Int.reduceLE, Int.reduceLT, Int.reduceNe, Int.reduceSub, Int.reduceToNat, Nat.reduceAdd, Nat.reduceBEq, Nat.reduceEqDiff, Nat.reduceLT, Nat.reduceLeDiff, Nat.reduceMul, Nat.reduceSub, reduceCtorEq, reduceIte]
    repeat (refine And.intro ?_ ?_; · first | rfl | omega | assumption | (simp; done) | (simp; omega) | (intros; omega) | (intros; simp_all; done) | (intros; simp_all; omega) | (and_intros <;> first | rfl | omega | assumption | (simp; done)))
    refine callT_at [0] [_] c6 rfl rfl ⟨rfl, trivial⟩ (by simp only [go_sem, reduceIte, Nat.reduceEqDiff, Nat.reduceAdd, Nat.reduceLT]) (by simp only [go_sem, reduceIte, Nat.reduceEqDiff, Nat.reduceAdd, Nat.reduceLT]) rfl (fun N => by (try simp only [go_sem, reduceIte, Nat.reduceEqDiff, Nat.reduceAdd, Nat.reduceLT]); try rfl) (fun N => by (try simp only [go_sem, reduceIte, Nat.reduceEqDiff, Nat.reduceAdd, Nat.reduceLT]); try rfl) ?_
    simp only [↓kOps_app, ↓evOps_nil, ↓evOps_cons, go_sem, Int.reduceAdd, Int.reduceBEq, Int.reduceEq, Int.reduceLE, Int.reduceLT, Int.reduceNe, Int.reduceSub, Int.reduceToNat, Nat.reduceAdd, Nat.reduceBEq, Nat.reduceEqDiff, Nat.reduceLT, Nat.reduceLeDiff, Nat.reduceMul, Nat.reduceSub, reduceCtorEq, reduceIte]
    repeat (refine And.intro ?_ ?_; · first | rfl | omega | assumption | (simp; done) | (simp; omega) | (intros; omega) | (intros; simp_all; done) | (intros; simp_all; omega) | (and_intros <;> first | rfl | omega | assumption | (simp; done)))
    refine callT_at [0] [_] c7 rfl rfl ⟨rfl, trivial⟩ (by simp only [go_sem, reduceIte, Nat.reduceEqDiff, Nat.reduceAdd, Nat.reduceLT]) (by simp only [go_sem, reduceIte, Nat.reduceEqDiff, Nat.reduceAdd, Nat.reduceLT]) rfl (fun N => by (try simp only [go_sem, reduceIte, Nat.reduceEqDiff, Nat.reduceAdd, Nat.reduceLT]); try rfl) (fun N => by (try simp only [go_sem, reduceIte, Nat.reduceEqDiff, Nat.reduceAdd, Nat.reduceLT]); try rfl) ?_
    simp only [↓kOps_app, ↓evOps_nil, ↓evOps_cons, go_sem, Int.reduceAdd, Int.reduceBEq, Int.reduceEq, Int.reduceLE, Int.reduceLT, Int.reduceNe, Int.reduceSub, Int.reduceToNat, Nat.reduceAdd, Nat.reduceBEq, Nat.reduceEqDiff, Nat.reduceLT, Nat.reduceLeDiff, Nat.reduceMul, Nat.reduceSub, reduceCtorEq, reduceIte]
    repeat (refine And.intro ?_ ?_; · first | rfl | omega | assumption | (simp; done) | (simp; omega) | (intros; omega) | (intros; simp_all; done) | (intros; simp_all; omega) | (and_intros <;> first | rfl | omega | assumption | (simp; done)))
    refine hK8 _ _ ?_
    refine wps_ret ?_
    refine retL [] rfl ⟨trivial, trivial⟩ rfl rfl ?_
    simp only [retSV, SV.mv, mvs, subL, List.map_nil, List.map_cons, SObj.mv, posOf, back, List.length_cons, List.length_nil, List.getElem?_cons_zero, List.getElem?_cons_succ, Option.map_some, Nat.reduceAdd, Nat.reduceLT, Nat.zero_add, Nat.lt_add_one, List.getD_cons_zero, List.getD_cons_succ, reduceIte, Nat.reduceEqDiff, Env.get, Env.put, and_true, true_and, implies_true]

/-- the same packets are the same -/
theorem same_ok (ps : List Pk) (q1 q2 : Option Nat) (hw : roomy ps) : CallT Try.prog 15 [.u (.fz (ps.map prow) q1), .u (.fz (ps.map prow) q2)] [] fun r σ => r = .u (.b true) ∧ σ = [] := by
  unfold roomy at hw
  refine callT_ofL 26 [.tmp 4] Try.func15 rfl Try.ntmps15 rfl (Nat.le_of_ble_eq_true rfl) fun c hnt hc0 => ?_
  refine wps_seq fun K1 hK1 => ?_
  refine wps_region (by rw [hnt]; rfl) 0 ?_
  simp only [↓kOps_app, ↓evOps_nil, ↓evOps_cons, go_sem, Int.reduceAdd, Int.reduceBEq, Int.reduceEq, Int.reduceLE, Int.reduceLT, Int.reduceNe, Int.reduceSub, Int.reduceToNat, Nat.reduceAdd, Nat.reduceBEq, Nat.reduceEqDiff, Nat.reduceLT, Nat.reduceLeDiff, Nat.reduceMul, Nat.reduceSub, reduceCtorEq, reduceIte]
  repeat (refine And.intro ?_ ?_; · first | rfl | omega | assumption | (simp; done) | (simp; omega) | (intros; omega) | (intros; simp_all; done) | (intros; simp_all; omega) | (and_intros <;> first | rfl | omega | assumption | (simp; done)))
  refine hK1 _ _ ?_
  refine wps_seq fun K2 hK2 => ?_
  refine wps_seq fun K3 hK3 => ?_
  refine wps_region (by rw [hnt]; rfl) 0 ?_
  simp only [↓kOps_app, ↓evOps_nil, ↓evOps_cons, go_sem, Int.reduceAdd, Int.reduceBEq, Int.reduceEq, Int.reduceLE, Int.reduceLT, Int.reduceNe, Int.reduceSub, Int.reduceToNat, Nat.reduceAdd, Nat.reduceBEq, Nat.reduceEqDiff, Nat.reduceLT, Nat.reduceLeDiff, Nat.reduceMul, Nat.reduceSub, reduceCtorEq, reduceIte]
  repeat (refine And.intro ?_ ?_; · first | rfl | omega | assumption | (simp; done) | (simp; omega) | (intros; omega) | (intros; simp_all; done) | (intros; simp_all; omega) | (and_intros <;> first | rfl | omega | assumption | (simp; done)))
  refine hK3 _ _ ?_
  refine wps_cond (b := _) rfl (fun h1 => ?_) (fun h1 => ?_)
  · exact absurd h1 (by simp)
  · refine wps_skip ?_
    refine hK2 _ _ ?_
    refine wps_seq fun K4 hK4 => ?_
    refine wps_seq fun K5 hK5 => ?_
    refine wps_region (by rw [hnt]; rfl) 0 ?_
    simp only [↓kOps_app, ↓evOps_nil, ↓evOps_cons, go_sem, Int.reduceAdd, Int.reduceBEq, Int.reduceEq, Int.reduceLE, Int.reduceLT, Int.reduceNe, Int.reduceSub, Int.reduceToNat, Nat.reduceAdd, Nat.reduceBEq, Nat.reduceEqDiff, Nat.reduceLT, Nat.reduceLeDiff, Nat.reduceMul, Nat.reduceSub, reduceCtorEq, reduceIte]
    repeat (refine And.intro ?_ ?_; · first | rfl | omega | assumption | (simp; done) | (simp; omega) | (intros; omega) | (intros; simp_all; done) | (intros; simp_all; omega) | (and_intros <;> first | rfl | omega | assumption | (simp; done)))
    refine hK5 _ _ ?_
    refine wps_blk fun K6 hK6 => ?_
    refine wps_loop (fun k e σ => ∃ i : Nat, k = ps.length - i ∧ i ≤ ps.length ∧ e = [(0, .u (.fz (ps.map prow) q1)), (1, .u (.fz (ps.map prow) q2)), (5, .u (.i .i64 i))] ∧ σ = [])
      (e0 := [(0, .u (.fz (ps.map prow) q1)), (1, .u (.fz (ps.map prow) q2)), (5, .u (.i .i64 0))]) (σ0 := [])
      (entL hc0 [] rfl rfl (by simp only [go_sem, reduceIte, Nat.reduceEqDiff, Nat.reduceAdd, Nat.reduceLT]) (by simp only [go_sem, reduceIte, Nat.reduceEqDiff, Nat.reduceAdd, Nat.reduceLT])) ⟨0, rfl, Nat.zero_le _, rfl, rfl⟩ fun KL k e1 σ1 hI hKL => ?_
    obtain ⟨i, rfl, hi, rfl, rfl⟩ := hI
    refine wps_seq fun K7 hK7 => ?_
    refine wps_seq fun K8 hK8 => ?_
    refine wps_region (by rw [hnt]; rfl) 0 ?_
    simp only [↓kOps_app, ↓evOps_nil, ↓evOps_cons, go_sem, Int.reduceAdd, Int.reduceBEq, Int.reduceEq, Int.reduceLE, Int.reduceLT, Int.reduceNe, Int.reduceSub, Int.reduceToNat, Nat.reduceAdd, Nat.reduceBEq, Nat.reduceEqDiff, Nat.reduceLT, Nat.reduceLeDiff, Nat.reduceMul, Nat.reduceSub, reduceCtorEq, reduceIte]
    repeat (refine And.intro ?_ ?_; · first | rfl | omega | assumption | (simp; done) | (simp; omega) | (intros; omega) | (intros; simp_all; done) | (intros; simp_all; omega) | (and_intros <;> first | rfl | omega | assumption | (simp; done)))
    refine hK8 _ _ ?_
    refine wps_cond (b := _) rfl (fun h2 => ?_) (fun h2 => ?_)
    · simp at h2
      have hel := prow_at h2
      have hw1 : IntKind.i64.wrap ((i : Int) + 1) = ((i + 1 : Nat) : Int) := by rw [wrap64 (by omega) (by omega)]; omega
      refine wps_skip ?_
      refine hK7 _ _ ?_
      refine wps_seq fun K9 hK9 => ?_
      refine wps_blk fun K10 hK10 => ?_
      refine wps_seq fun K11 hK11 => ?_
      refine wps_drawL mixed (by rw [hnt]; rfl) (by kernel_rfl) 0 (ms := [0, 0, 3, 7, 0, 0, 48, 112, 255]) (by kernel_rfl) ?_
      simp only [↓kOps_app, ↓evOps_nil, ↓evOps_cons, go_sem, Int.reduceAdd, Int.reduceBEq, Int.reduceEq, Int.reduceLE, Int.reduceLT, Int.reduceNe, Int.reduceSub, Int.reduceToNat, Nat.reduceAdd, Nat.reduceBEq, Nat.reduceEqDiff, Nat.reduceLT, Nat.reduceLeDiff, Nat.reduceMul, Nat.reduceSub, reduceCtorEq, reduceIte, hel]
      repeat (refine And.intro ?_ ?_; · first | rfl | omega | assumption | (simp; done) | (simp; omega) | (intros; omega) | (intros; simp_all; done) | (intros; simp_all; omega) | (and_intros <;> first | rfl | omega | assumption | (simp; done)))
      refine hK11 _ _ ?_
      refine wps_cond (b := _) rfl (fun h3 => ?_) (fun h3 => ?_)
      · exact absurd h3 (by simp)
      · refine wps_skip ?_
        refine hK10 _ _ ?_
        refine hK9 _ _ ?_
        refine wps_region (by rw [hnt]; rfl) 0 ?_
        simp only [↓kOps_app, ↓evOps_nil, ↓evOps_cons, go_sem, Int.reduceAdd, Int.reduceBEq, Int.reduceEq, Int.reduceLE, Int.reduceLT, Int.reduceNe, Int.reduceSub, Int.reduceToNat, Nat.reduceAdd, Nat.reduceBEq, Nat.reduceEqDiff, Nat.reduceLT, Nat.reduceLeDiff, Nat.reduceMul, Nat.reduceSub, reduceCtorEq, reduceIte, hw1]
        repeat (refine And.intro ?_ ?_; · first | rfl | omega | assumption | (simp; done) | (simp; omega) | (intros; omega) | (intros; simp_all; done) | (intros; simp_all; omega) | (and_intros <;> first | rfl | omega | assumption | (simp; done)))
        exact hKL _ _ (ps.length - (i + 1)) _ _ (entL hc0 [] rfl rfl (by simp only [go_sem, reduceIte, Nat.reduceEqDiff, Nat.reduceAdd, Nat.reduceLT]) (by simp only [go_sem, reduceIte, Nat.reduceEqDiff, Nat.reduceAdd, Nat.reduceLT])) ⟨i + 1, rfl, by omega, rfl, rfl⟩ (by omega)
    · refine wps_exit ?_
      simp only [reduceIte, Nat.reduceEqDiff]
      refine hK6 _ _ ?_
      refine hK4 _ _ ?_
      refine wps_seq fun K12 hK12 => ?_
      refine wps_region (by rw [hnt]; rfl) 0 ?_
      simp only [↓kOps_app, ↓evOps_nil, ↓evOps_cons, go_sem, Int.reduceAdd, Int.reduceBEq, Int.reduceEq, Int.reduceLE, Int.reduceLT, Int.reduceNe, Int.reduceSub, Int.reduceToNat, Nat.reduceAdd, Nat.reduceBEq, Nat.reduceEqDiff, Nat.reduceLT, Nat.reduceLeDiff, Nat.reduceMul, Nat.reduceSub, reduceCtorEq, reduceIte]
      repeat (refine And.intro ?_ ?_; · first | rfl | omega | assumption | (simp; done) | (simp; omega) | (intros; omega) | (intros; simp_all; done) | (intros; simp_all; omega) | (and_intros <;> first | rfl | omega | assumption | (simp; done)))
      refine hK12 _ _ ?_
      refine wps_ret ?_
      refine retL [] rfl ⟨trivial, trivial⟩ rfl rfl ?_
      simp only [retSV, SV.mv, mvs, subL, List.map_nil, List.map_cons, SObj.mv, posOf, back, List.length_cons, List.length_nil, List.getElem?_cons_zero, List.getElem?_cons_succ, Option.map_some, Nat.reduceAdd, Nat.reduceLT, Nat.zero_add, Nat.lt_add_one, List.getD_cons_zero, List.getD_cons_succ, reduceIte, Nat.reduceEqDiff, Env.get, Env.put, and_true, true_and, implies_true]
end Go.Proofs.Yteoihmgigmiajaa
