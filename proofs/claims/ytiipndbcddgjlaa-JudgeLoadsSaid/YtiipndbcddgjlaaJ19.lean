import Derived.Test.YtiipndbcddgjlaaJ18
set_option linter.all false
set_option linter.unusedSimpArgs false
set_option linter.unusedVariables false
namespace Go.Proofs.Ytiipndbcddgjlaa
open Go.Nm

theorem bat_mem {bs : List Bt} {i : Nat} (h : i < bs.length) : bat bs i ∈ bs := by
  rw [bat, List.getD_eq_getElem?_getD, List.getElem?_eq_getElem h]; exact List.getElem_mem h

set_option maxHeartbeats 8000000 in
set_option maxRecDepth 8000 in
theorem loads_ok (bs ms : List Bt) : CallT Try.prog 6 [.u (.fz (bs.map brow) none), .u (.fz (ms.map brow) none)] [] fun r σ => r = .u (.b true) ∧ σ = [] := by
  have hn := new_ok 0
  unfold jcells at hn
  refine callT_ofL 127 [.tmp 4] Try.func6 rfl Try.ntmps6 rfl (Nat.le_of_ble_eq_true rfl) fun c hnt hc0 => ?_
  refine wps_seq fun K1 hK1 => ?_
  refine wps_region (by rw [hnt]; rfl) 0 ?_
  simp only [↓evOps, go_sem, Int.reduceAdd, Int.reduceBEq, Int.reduceEq, Int.reduceLE, Int.reduceLT, Int.reduceNe, Int.reduceSub, Int.reduceToNat, Nat.reduceAdd, Nat.reduceBEq, Nat.reduceEqDiff, Nat.reduceLT, Nat.reduceLeDiff, Nat.reduceMul, Nat.reduceSub, reduceCtorEq, reduceIte]
  repeat (refine And.intro ?_ ?_; · first | rfl | omega | assumption | (simp; done) | (simp; omega) | (intros; omega) | (intros; simp_all; done) | (intros; simp_all; omega) | (and_intros <;> first | rfl | omega | assumption | (simp; done)))
  refine hK1 _ _ ?_
  refine wps_seq fun K2 hK2 => ?_
  refine wps_region (by rw [hnt]; rfl) 0 ?_
  simp only [↓evOps, go_sem, Int.reduceAdd, Int.reduceBEq, Int.reduceEq, Int.reduceLE, Int.reduceLT, Int.reduceNe, Int.reduceSub, Int.reduceToNat, Nat.reduceAdd, Nat.reduceBEq, Nat.reduceEqDiff, Nat.reduceLT, Nat.reduceLeDiff, Nat.reduceMul, Nat.reduceSub, reduceCtorEq, reduceIte]
  repeat (refine And.intro ?_ ?_; · first | rfl | omega | assumption | (simp; done) | (simp; omega) | (intros; omega) | (intros; simp_all; done) | (intros; simp_all; omega) | (and_intros <;> first | rfl | omega | assumption | (simp; done)))
  refine callT_new hn (by simp only [go_sem, reduceIte, Nat.reduceEqDiff, Nat.reduceAdd, Nat.reduceLT]) ?_
  simp only [retSV, SV.mv, mvs, subL, List.map_nil, List.map_cons, SObj.mv, posOf, back, List.length_cons, List.length_nil, List.getElem?_cons_zero, List.getElem?_cons_succ, Option.map_some, Nat.reduceAdd, Nat.reduceLT, Nat.zero_add, Nat.lt_add_one, List.getD_cons_zero, List.getD_cons_succ, reduceIte, Nat.reduceEqDiff, Env.get, Env.put, and_true, true_and, implies_true, Nat.not_lt_zero, Nat.sub_zero]
  simp only [↓evOps, go_sem, Int.reduceAdd, Int.reduceBEq, Int.reduceEq, Int.reduceLE, Int.reduceLT, Int.reduceNe, Int.reduceSub, Int.reduceToNat, Nat.reduceAdd, Nat.reduceBEq, Nat.reduceEqDiff, Nat.reduceLT, Nat.reduceLeDiff, Nat.reduceMul, Nat.reduceSub, reduceCtorEq, reduceIte]
  repeat (refine And.intro ?_ ?_; · first | rfl | omega | assumption | (simp; done) | (simp; omega) | (intros; omega) | (intros; simp_all; done) | (intros; simp_all; omega) | (and_intros <;> first | rfl | omega | assumption | (simp; done)))
  refine callT_new hn (by simp only [go_sem, reduceIte, Nat.reduceEqDiff, Nat.reduceAdd, Nat.reduceLT]) ?_
  simp only [retSV, SV.mv, mvs, subL, List.map_nil, List.map_cons, SObj.mv, posOf, back, List.length_cons, List.length_nil, List.getElem?_cons_zero, List.getElem?_cons_succ, Option.map_some, Nat.reduceAdd, Nat.reduceLT, Nat.zero_add, Nat.lt_add_one, List.getD_cons_zero, List.getD_cons_succ, reduceIte, Nat.reduceEqDiff, Env.get, Env.put, and_true, true_and, implies_true, Nat.not_lt_zero, Nat.sub_zero]
  simp only [↓evOps, go_sem, Int.reduceAdd, Int.reduceBEq, Int.reduceEq, Int.reduceLE, Int.reduceLT, Int.reduceNe, Int.reduceSub, Int.reduceToNat, Nat.reduceAdd, Nat.reduceBEq, Nat.reduceEqDiff, Nat.reduceLT, Nat.reduceLeDiff, Nat.reduceMul, Nat.reduceSub, reduceCtorEq, reduceIte]
  repeat (refine And.intro ?_ ?_; · first | rfl | omega | assumption | (simp; done) | (simp; omega) | (intros; omega) | (intros; simp_all; done) | (intros; simp_all; omega) | (and_intros <;> first | rfl | omega | assumption | (simp; done)))
  refine hK2 _ _ ?_
  refine wps_seq fun K3 hK3 => ?_
  refine wps_seq fun K4 hK4 => ?_
  refine wps_region (by rw [hnt]; rfl) 0 ?_
  simp only [↓evOps, go_sem, Int.reduceAdd, Int.reduceBEq, Int.reduceEq, Int.reduceLE, Int.reduceLT, Int.reduceNe, Int.reduceSub, Int.reduceToNat, Nat.reduceAdd, Nat.reduceBEq, Nat.reduceEqDiff, Nat.reduceLT, Nat.reduceLeDiff, Nat.reduceMul, Nat.reduceSub, reduceCtorEq, reduceIte]
  repeat (refine And.intro ?_ ?_; · first | rfl | omega | assumption | (simp; done) | (simp; omega) | (intros; omega) | (intros; simp_all; done) | (intros; simp_all; omega) | (and_intros <;> first | rfl | omega | assumption | (simp; done)))
  refine callT_new awake_ok (by simp only [go_sem, reduceIte, Nat.reduceEqDiff, Nat.reduceAdd, Nat.reduceLT]) ?_
  simp only [retSV, SV.mv, mvs, subL, List.map_nil, List.map_cons, SObj.mv, posOf, back, List.length_cons, List.length_nil, List.getElem?_cons_zero, List.getElem?_cons_succ, Option.map_some, Nat.reduceAdd, Nat.reduceLT, Nat.zero_add, Nat.lt_add_one, List.getD_cons_zero, List.getD_cons_succ, reduceIte, Nat.reduceEqDiff, Env.get, Env.put, and_true, true_and, implies_true]
  simp only [↓evOps, go_sem, Int.reduceAdd, Int.reduceBEq, Int.reduceEq, Int.reduceLE, Int.reduceLT, Int.reduceNe, Int.reduceSub, Int.reduceToNat, Nat.reduceAdd, Nat.reduceBEq, Nat.reduceEqDiff, Nat.reduceLT, Nat.reduceLeDiff, Nat.reduceMul, Nat.reduceSub, reduceCtorEq, reduceIte]
  repeat (refine And.intro ?_ ?_; · first | rfl | omega | assumption | (simp; done) | (simp; omega) | (intros; omega) | (intros; simp_all; done) | (intros; simp_all; omega) | (and_intros <;> first | rfl | omega | assumption | (simp; done)))
  refine hK4 _ _ ?_
  refine wps_cond (b := _) rfl (fun h1 => ?_) (fun h1 => ?_)
  · exact absurd h1 (by simp)
  · refine wps_skip ?_
    refine hK3 _ _ ?_
    refine wps_seq fun K5 hK5 => ?_
    refine wps_region (by rw [hnt]; rfl) 0 ?_
    simp only [↓evOps, go_sem, Int.reduceAdd, Int.reduceBEq, Int.reduceEq, Int.reduceLE, Int.reduceLT, Int.reduceNe, Int.reduceSub, Int.reduceToNat, Nat.reduceAdd, Nat.reduceBEq, Nat.reduceEqDiff, Nat.reduceLT, Nat.reduceLeDiff, Nat.reduceMul, Nat.reduceSub, reduceCtorEq, reduceIte]
    repeat (refine And.intro ?_ ?_; · first | rfl | omega | assumption | (simp; done) | (simp; omega) | (intros; omega) | (intros; simp_all; done) | (intros; simp_all; omega) | (and_intros <;> first | rfl | omega | assumption | (simp; done)))
    refine hK5 _ _ ?_
    refine wps_seq fun K6 hK6 => ?_
    refine wps_seq fun K7 hK7 => ?_
    refine wps_region (by rw [hnt]; rfl) 0 ?_
    simp only [↓evOps, go_sem, Int.reduceAdd, Int.reduceBEq, Int.reduceEq, Int.reduceLE, Int.reduceLT, Int.reduceNe, Int.reduceSub, Int.reduceToNat, Nat.reduceAdd, Nat.reduceBEq, Nat.reduceEqDiff, Nat.reduceLT, Nat.reduceLeDiff, Nat.reduceMul, Nat.reduceSub, reduceCtorEq, reduceIte]
    repeat (refine And.intro ?_ ?_; · first | rfl | omega | assumption | (simp; done) | (simp; omega) | (intros; omega) | (intros; simp_all; done) | (intros; simp_all; omega) | (and_intros <;> first | rfl | omega | assumption | (simp; done)))
    refine hK7 _ _ ?_
    refine wps_blk fun K8 hK8 => ?_
    refine wps_loop (fun k e σ => ∃ (i : Nat) (J : Jd) (done : List Bt), k = bs.length - i ∧ i ≤ bs.length ∧ i ≤ 30 ∧ done.length ≤ i ∧ FirI bs done J ∧ e = [(0, .u (.fz (bs.map brow) none)), (1, .u (.fz (ms.map brow) none)), (5, .p 0 0), (6, .p 3 0), (7, .h 6), (8, .u (.i .i64 i))] ∧ σ = [.cells [.u (.i .u64 J.last), .h 1, .h 2], .map (J.ks.map kent), .map (J.ts.map tent), .cells [.u (.i .u64 0), .h 4, .h 5], .map [], .map [], .row 29 4 (done.map brow)])
      (e0 := [(0, .u (.fz (bs.map brow) none)), (1, .u (.fz (ms.map brow) none)), (5, .p 0 0), (6, .p 3 0), (7, .h 6), (8, .u (.i .i64 0))]) (σ0 := [.cells [.u (.i .u64 0), .h 1, .h 2], .map [], .map [], .cells [.u (.i .u64 0), .h 4, .h 5], .map [], .map [], .row 29 4 []])
      ((ent_thaw (t := 7) 29 4 rfl).trans (entL hc0 [some 0, some 1, some 2, some 3, some 4, some 5, some 6] rfl rfl (by simp only [go_sem, reduceIte, Nat.reduceEqDiff, Nat.reduceAdd, Nat.reduceLT]) (by simp only [retSV, SV.mv, mvs, subL, List.map_nil, List.map_cons, SObj.mv, posOf, back, List.length_cons, List.length_nil, List.getElem?_cons_zero, List.getElem?_cons_succ, Option.map_some, Nat.reduceAdd, Nat.reduceLT, Nat.zero_add, Nat.lt_add_one, List.getD_cons_zero, List.getD_cons_succ, reduceIte, Nat.reduceEqDiff, Env.get, Env.put, and_true, true_and, implies_true, List.cons_append, List.nil_append]))) ⟨0, ⟨0, [], []⟩, [], rfl, Nat.zero_le _, by omega, by simp, fir_zero bs, rfl, rfl⟩ fun KL k e1 σ1 hI hKL => ?_
    obtain ⟨i, J, done, rfl, hi, hi30, hal, hF, rfl, rfl⟩ := hI
    have hJl := hF.last
    refine wps_seq fun K9 hK9 => ?_
    refine wps_seq fun K10 hK10 => ?_
    refine wps_region (by rw [hnt]; rfl) 0 ?_
    simp only [↓evOps, go_sem, Int.reduceAdd, Int.reduceBEq, Int.reduceEq, Int.reduceLE, Int.reduceLT, Int.reduceNe, Int.reduceSub, Int.reduceToNat, Nat.reduceAdd, Nat.reduceBEq, Nat.reduceEqDiff, Nat.reduceLT, Nat.reduceLeDiff, Nat.reduceMul, Nat.reduceSub, reduceCtorEq, reduceIte]
    repeat (refine And.intro ?_ ?_; · first | rfl | omega | assumption | (simp; done) | (simp; omega) | (intros; omega) | (intros; simp_all; done) | (intros; simp_all; omega) | (and_intros <;> first | rfl | omega | assumption | (simp; done)))
    refine hK10 _ _ ?_
    refine wps_cond (b := _) rfl (fun h2 => ?_) (fun h2 => ?_)
    · simp at h2
      have hel := brow_at h2.1
      have hw1 : IntKind.i64.wrap ((i : Int) + 1) = ((i + 1 : Nat) : Int) := by rw [wrap64 (by omega) (by omega)]; omega
      have hfw := few_ok (bat bs i).c (bat bs i).r (bat bs i).s (bat bs i).ws
      have hl := last_ok J.last (J.ks.map kent) (J.ts.map tent)
      have hsy := say_ok J (bat bs i).c (bat bs i).r (bat bs i).s (fewW (bat bs i).ws) none (by omega)
      have hcase := fir_say hF (bat bs i).c (bat bs i).r (bat bs i).s (fewW (bat bs i).ws) ⟨_, bat_mem h2.1, rfl⟩
      obtain ⟨v, J', hv⟩ : ∃ v J', sayS J (bat bs i).c (bat bs i).r (bat bs i).s (fewW (bat bs i).ws) = (v, J') := ⟨_, _, rfl⟩
      rw [hv] at hsy hcase
      have hl' := last_ok J'.last (J'.ks.map kent) (J'.ts.map tent)
      simp only [bcells, Jd.obs, jcells, List.map_cons, List.map_nil, wrow] at hfw hsy hl hl'
      simp only at hcase
      refine wps_skip ?_
      refine hK9 _ _ ?_
      refine wps_seq fun K11 hK11 => ?_
      refine wps_blk fun K12 hK12 => ?_
      refine wps_seq fun K13 hK13 => ?_
      refine wps_region (by rw [hnt]; rfl) 1 ?_
      simp only [↓evOps, go_sem, Int.reduceAdd, Int.reduceBEq, Int.reduceEq, Int.reduceLE, Int.reduceLT, Int.reduceNe, Int.reduceSub, Int.reduceToNat, Nat.reduceAdd, Nat.reduceBEq, Nat.reduceEqDiff, Nat.reduceLT, Nat.reduceLeDiff, Nat.reduceMul, Nat.reduceSub, reduceCtorEq, reduceIte, hel]
      repeat (refine And.intro ?_ ?_; · first | rfl | omega | assumption | (simp; done) | (simp; omega) | (intros; omega) | (intros; simp_all; done) | (intros; simp_all; omega) | (and_intros <;> first | rfl | omega | assumption | (simp; done)))
      refine callT_new hfw (by simp only [go_sem, reduceIte, Nat.reduceEqDiff, Nat.reduceAdd, Nat.reduceLT]) ?_
      simp only [retSV, SV.mv, mvs, subL, List.map_nil, List.map_cons, SObj.mv, posOf, back, List.length_cons, List.length_nil, List.getElem?_cons_zero, List.getElem?_cons_succ, Option.map_some, Nat.reduceAdd, Nat.reduceLT, Nat.zero_add, Nat.lt_add_one, List.getD_cons_zero, List.getD_cons_succ, reduceIte, Nat.reduceEqDiff, Env.get, Env.put, and_true, true_and, implies_true]
      simp only [↓evOps, go_sem, Int.reduceAdd, Int.reduceBEq, Int.reduceEq, Int.reduceLE, Int.reduceLT, Int.reduceNe, Int.reduceSub, Int.reduceToNat, Nat.reduceAdd, Nat.reduceBEq, Nat.reduceEqDiff, Nat.reduceLT, Nat.reduceLeDiff, Nat.reduceMul, Nat.reduceSub, reduceCtorEq, reduceIte, hel]
      repeat (refine And.intro ?_ ?_; · first | rfl | omega | assumption | (simp; done) | (simp; omega) | (intros; omega) | (intros; simp_all; done) | (intros; simp_all; omega) | (and_intros <;> first | rfl | omega | assumption | (simp; done)))
      refine hK13 _ _ ?_
      refine wps_seq fun K14 hK14 => ?_
      refine wps_region (by rw [hnt]; rfl) 0 ?_
      simp only [↓evOps, go_sem, Int.reduceAdd, Int.reduceBEq, Int.reduceEq, Int.reduceLE, Int.reduceLT, Int.reduceNe, Int.reduceSub, Int.reduceToNat, Nat.reduceAdd, Nat.reduceBEq, Nat.reduceEqDiff, Nat.reduceLT, Nat.reduceLeDiff, Nat.reduceMul, Nat.reduceSub, reduceCtorEq, reduceIte]
      repeat (refine And.intro ?_ ?_; · first | rfl | omega | assumption | (simp; done) | (simp; omega) | (intros; omega) | (intros; simp_all; done) | (intros; simp_all; omega) | (and_intros <;> first | rfl | omega | assumption | (simp; done)))
      refine callT_at [0, 1, 2] [_, _, _] hl rfl rfl ⟨rfl, rfl, rfl, trivial⟩ (by simp only [go_sem, reduceIte, Nat.reduceEqDiff, Nat.reduceAdd, Nat.reduceLT]) (by simp only [go_sem, reduceIte, Nat.reduceEqDiff, Nat.reduceAdd, Nat.reduceLT]) rfl (fun N => by (try simp only [go_sem, reduceIte, Nat.reduceEqDiff, Nat.reduceAdd, Nat.reduceLT]); try rfl) (fun N => by (try simp only [go_sem, reduceIte, Nat.reduceEqDiff, Nat.reduceAdd, Nat.reduceLT]); try rfl) ?_
      simp only [↓evOps, go_sem, Int.reduceAdd, Int.reduceBEq, Int.reduceEq, Int.reduceLE, Int.reduceLT, Int.reduceNe, Int.reduceSub, Int.reduceToNat, Nat.reduceAdd, Nat.reduceBEq, Nat.reduceEqDiff, Nat.reduceLT, Nat.reduceLeDiff, Nat.reduceMul, Nat.reduceSub, reduceCtorEq, reduceIte]
      repeat (refine And.intro ?_ ?_; · first | rfl | omega | assumption | (simp; done) | (simp; omega) | (intros; omega) | (intros; simp_all; done) | (intros; simp_all; omega) | (and_intros <;> first | rfl | omega | assumption | (simp; done)))
      refine hK14 _ _ ?_
      refine wps_seq fun K15 hK15 => ?_
      refine wps_region (by rw [hnt]; rfl) 0 ?_
      simp only [↓evOps, go_sem, Int.reduceAdd, Int.reduceBEq, Int.reduceEq, Int.reduceLE, Int.reduceLT, Int.reduceNe, Int.reduceSub, Int.reduceToNat, Nat.reduceAdd, Nat.reduceBEq, Nat.reduceEqDiff, Nat.reduceLT, Nat.reduceLeDiff, Nat.reduceMul, Nat.reduceSub, reduceCtorEq, reduceIte]
      repeat (refine And.intro ?_ ?_; · first | rfl | omega | assumption | (simp; done) | (simp; omega) | (intros; omega) | (intros; simp_all; done) | (intros; simp_all; omega) | (and_intros <;> first | rfl | omega | assumption | (simp; done)))
      refine callT_at [0, 1, 2] [_, _, _] hsy rfl rfl ⟨rfl, rfl, rfl, trivial⟩ (by simp only [go_sem, reduceIte, Nat.reduceEqDiff, Nat.reduceAdd, Nat.reduceLT]) (by simp only [go_sem, reduceIte, Nat.reduceEqDiff, Nat.reduceAdd, Nat.reduceLT]) rfl (fun N => by (try simp only [go_sem, reduceIte, Nat.reduceEqDiff, Nat.reduceAdd, Nat.reduceLT]); try rfl) (fun N => by (try simp only [go_sem, reduceIte, Nat.reduceEqDiff, Nat.reduceAdd, Nat.reduceLT]); try rfl) ?_
      simp only [↓evOps, go_sem, Int.reduceAdd, Int.reduceBEq, Int.reduceEq, Int.reduceLE, Int.reduceLT, Int.reduceNe, Int.reduceSub, Int.reduceToNat, Nat.reduceAdd, Nat.reduceBEq, Nat.reduceEqDiff, Nat.reduceLT, Nat.reduceLeDiff, Nat.reduceMul, Nat.reduceSub, reduceCtorEq, reduceIte]
      repeat (refine And.intro ?_ ?_; · first | rfl | omega | assumption | (simp; done) | (simp; omega) | (intros; omega) | (intros; simp_all; done) | (intros; simp_all; omega) | (and_intros <;> first | rfl | omega | assumption | (simp; done)))
      refine hK15 _ _ ?_
      refine wps_seq fun K16 hK16 => ?_
      refine wps_region (by rw [hnt]; rfl) 0 ?_
      simp only [↓evOps, go_sem, Int.reduceAdd, Int.reduceBEq, Int.reduceEq, Int.reduceLE, Int.reduceLT, Int.reduceNe, Int.reduceSub, Int.reduceToNat, Nat.reduceAdd, Nat.reduceBEq, Nat.reduceEqDiff, Nat.reduceLT, Nat.reduceLeDiff, Nat.reduceMul, Nat.reduceSub, reduceCtorEq, reduceIte]
      repeat (refine And.intro ?_ ?_; · first | rfl | omega | assumption | (simp; done) | (simp; omega) | (intros; omega) | (intros; simp_all; done) | (intros; simp_all; omega) | (and_intros <;> first | rfl | omega | assumption | (simp; done)))
      refine callT_at [0, 1, 2] [_, _, _] hl' rfl rfl ⟨rfl, rfl, rfl, trivial⟩ (by simp only [go_sem, reduceIte, Nat.reduceEqDiff, Nat.reduceAdd, Nat.reduceLT]) (by simp only [go_sem, reduceIte, Nat.reduceEqDiff, Nat.reduceAdd, Nat.reduceLT]) rfl (fun N => by (try simp only [go_sem, reduceIte, Nat.reduceEqDiff, Nat.reduceAdd, Nat.reduceLT]); try rfl) (fun N => by (try simp only [go_sem, reduceIte, Nat.reduceEqDiff, Nat.reduceAdd, Nat.reduceLT]); try rfl) ?_
      simp only [↓evOps, go_sem, Int.reduceAdd, Int.reduceBEq, Int.reduceEq, Int.reduceLE, Int.reduceLT, Int.reduceNe, Int.reduceSub, Int.reduceToNat, Nat.reduceAdd, Nat.reduceBEq, Nat.reduceEqDiff, Nat.reduceLT, Nat.reduceLeDiff, Nat.reduceMul, Nat.reduceSub, reduceCtorEq, reduceIte]
      repeat (refine And.intro ?_ ?_; · first | rfl | omega | assumption | (simp; done) | (simp; omega) | (intros; omega) | (intros; simp_all; done) | (intros; simp_all; omega) | (and_intros <;> first | rfl | omega | assumption | (simp; done)))
      refine hK16 _ _ ?_
      refine wps_cond (b := _) rfl (fun h3 => ?_) (fun h3 => ?_)
      · refine wps_region (by rw [hnt]; rfl) 1 ?_
        simp only [↓evOps, go_sem, Int.reduceAdd, Int.reduceBEq, Int.reduceEq, Int.reduceLE, Int.reduceLT, Int.reduceNe, Int.reduceSub, Int.reduceToNat, Nat.reduceAdd, Nat.reduceBEq, Nat.reduceEqDiff, Nat.reduceLT, Nat.reduceLeDiff, Nat.reduceMul, Nat.reduceSub, reduceCtorEq, reduceIte]
        repeat (refine And.intro ?_ ?_; · first | rfl | omega | assumption | (simp; done) | (simp; omega) | (intros; omega) | (intros; simp_all; done) | (intros; simp_all; omega) | (and_intros <;> first | rfl | omega | assumption | (simp; done)))
        refine hK12 _ _ ?_
        refine hK11 _ _ ?_
        refine wps_region (by rw [hnt]; rfl) 0 ?_
        simp only [↓evOps, go_sem, Int.reduceAdd, Int.reduceBEq, Int.reduceEq, Int.reduceLE, Int.reduceLT, Int.reduceNe, Int.reduceSub, Int.reduceToNat, Nat.reduceAdd, Nat.reduceBEq, Nat.reduceEqDiff, Nat.reduceLT, Nat.reduceLeDiff, Nat.reduceMul, Nat.reduceSub, reduceCtorEq, reduceIte, hw1]
        repeat (refine And.intro ?_ ?_; · first | rfl | omega | assumption | (simp; done) | (simp; omega) | (intros; omega) | (intros; simp_all; done) | (intros; simp_all; omega) | (and_intros <;> first | rfl | omega | assumption | (simp; done)))
        obtain ⟨hJ', hF'⟩ : J'.last = J.last + 1 ∧ FirI bs (done ++ [⟨(bat bs i).c, (bat bs i).r, (bat bs i).s, fewW (bat bs i).ws⟩]) J' := by
          rcases hcase with ⟨h, _⟩ | h
          · simp [h] at h3
          · exact h
        exact hKL _ _ (bs.length - (i + 1)) _ _ (entL hc0 [some 0, some 1, some 2, some 3, some 4, some 5, some 8] rfl rfl (by simp only [go_sem, reduceIte, Nat.reduceEqDiff, Nat.reduceAdd, Nat.reduceLT]) (by simp only [retSV, SV.mv, mvs, subL, List.map_nil, List.map_cons, SObj.mv, posOf, back, List.length_cons, List.length_nil, List.getElem?_cons_zero, List.getElem?_cons_succ, Option.map_some, Nat.reduceAdd, Nat.reduceLT, Nat.zero_add, Nat.lt_add_one, List.getD_cons_zero, List.getD_cons_succ, reduceIte, Nat.reduceEqDiff, Env.get, Env.put, and_true, true_and, implies_true]; rfl)) ⟨i + 1, J', done ++ [⟨(bat bs i).c, (bat bs i).r, (bat bs i).s, fewW (bat bs i).ws⟩], rfl, by omega, by omega, by simp; omega, hF', rfl, by rw [List.map_append, List.map_cons, List.map_nil, brow]⟩ (by omega)
      · refine wps_skip ?_
        refine hK12 _ _ ?_
        refine hK11 _ _ ?_
        refine wps_region (by rw [hnt]; rfl) 0 ?_
        simp only [↓evOps, go_sem, Int.reduceAdd, Int.reduceBEq, Int.reduceEq, Int.reduceLE, Int.reduceLT, Int.reduceNe, Int.reduceSub, Int.reduceToNat, Nat.reduceAdd, Nat.reduceBEq, Nat.reduceEqDiff, Nat.reduceLT, Nat.reduceLeDiff, Nat.reduceMul, Nat.reduceSub, reduceCtorEq, reduceIte, hw1]
        repeat (refine And.intro ?_ ?_; · first | rfl | omega | assumption | (simp; done) | (simp; omega) | (intros; omega) | (intros; simp_all; done) | (intros; simp_all; omega) | (and_intros <;> first | rfl | omega | assumption | (simp; done)))
        obtain ⟨hJ', hF'⟩ : J'.last = J.last ∧ FirI bs done J' := by
          rcases hcase with h | ⟨h, _⟩
          · exact h
          · simp at h3; omega
        exact hKL _ _ (bs.length - (i + 1)) _ _ (entL hc0 [some 0, some 1, some 2, some 3, some 4, some 5, some 6] rfl rfl (by simp only [go_sem, reduceIte, Nat.reduceEqDiff, Nat.reduceAdd, Nat.reduceLT]) (by simp only [go_sem, reduceIte, Nat.reduceEqDiff, Nat.reduceAdd, Nat.reduceLT])) ⟨i + 1, J', done, rfl, by omega, by omega, by omega, hF', rfl, rfl⟩ (by omega)
    · refine wps_exit ?_
      simp only [reduceIte, Nat.reduceEqDiff]
      refine hK8 _ _ ?_
      refine hK6 _ _ ?_
      refine wps_seq fun K17 hK17 => ?_
      refine wps_seq fun K18 hK18 => ?_
      refine wps_region (by rw [hnt]; rfl) 0 ?_
      simp only [↓evOps, go_sem, Int.reduceAdd, Int.reduceBEq, Int.reduceEq, Int.reduceLE, Int.reduceLT, Int.reduceNe, Int.reduceSub, Int.reduceToNat, Nat.reduceAdd, Nat.reduceBEq, Nat.reduceEqDiff, Nat.reduceLT, Nat.reduceLeDiff, Nat.reduceMul, Nat.reduceSub, reduceCtorEq, reduceIte]
      repeat (refine And.intro ?_ ?_; · first | rfl | omega | assumption | (simp; done) | (simp; omega) | (intros; omega) | (intros; simp_all; done) | (intros; simp_all; omega) | (and_intros <;> first | rfl | omega | assumption | (simp; done)))
      refine hK18 _ _ ?_
      refine wps_blk fun K19 hK19 => ?_
      refine wps_loop (fun k e σ => ∃ (t : Nat) (K : Jd), k = done.length - t ∧ t ≤ done.length ∧ SecI bs done t K ∧ e = [(0, .u (.fz (bs.map brow) none)), (1, .u (.fz (ms.map brow) none)), (5, .p 0 0), (6, .p 3 0), (7, .h 6), (11, .u (.i .i64 t))] ∧ σ = [.cells [.u (.i .u64 J.last), .h 1, .h 2], .map (J.ks.map kent), .map (J.ts.map tent), .cells [.u (.i .u64 K.last), .h 4, .h 5], .map (K.ks.map kent), .map (K.ts.map tent), .row 29 4 (done.map brow)])
        (e0 := [(0, .u (.fz (bs.map brow) none)), (1, .u (.fz (ms.map brow) none)), (5, .p 0 0), (6, .p 3 0), (7, .h 6), (11, .u (.i .i64 0))]) (σ0 := [.cells [.u (.i .u64 J.last), .h 1, .h 2], .map (J.ks.map kent), .map (J.ts.map tent), .cells [.u (.i .u64 0), .h 4, .h 5], .map [], .map [], .row 29 4 (done.map brow)])
        (entL hc0 [some 0, some 1, some 2, some 3, some 4, some 5, some 6] rfl rfl (by simp only [go_sem, reduceIte, Nat.reduceEqDiff, Nat.reduceAdd, Nat.reduceLT]) (by simp only [go_sem, reduceIte, Nat.reduceEqDiff, Nat.reduceAdd, Nat.reduceLT])) ⟨0, ⟨0, [], []⟩, rfl, Nat.zero_le _, sec_zero bs done, rfl, rfl⟩ fun KM k2 e2 σ2 hI2 hKM => ?_
      obtain ⟨t, K, rfl, htl, hS, rfl, rfl⟩ := hI2
      refine wps_seq fun K20 hK20 => ?_
      refine wps_seq fun K21 hK21 => ?_
      refine wps_region (by rw [hnt]; rfl) 0 ?_
      simp only [↓evOps, go_sem, Int.reduceAdd, Int.reduceBEq, Int.reduceEq, Int.reduceLE, Int.reduceLT, Int.reduceNe, Int.reduceSub, Int.reduceToNat, Nat.reduceAdd, Nat.reduceBEq, Nat.reduceEqDiff, Nat.reduceLT, Nat.reduceLeDiff, Nat.reduceMul, Nat.reduceSub, reduceCtorEq, reduceIte]
      repeat (refine And.intro ?_ ?_; · first | rfl | omega | assumption | (simp; done) | (simp; omega) | (intros; omega) | (intros; simp_all; done) | (intros; simp_all; omega) | (and_intros <;> first | rfl | omega | assumption | (simp; done)))
      refine hK21 _ _ ?_
      refine wps_cond (b := _) rfl (fun h4 => ?_) (fun h4 => ?_)
      · simp at h4
        have hel2 := brow_at h4
        have hw3 : (t : Int) + 1 = ((t + 1 : Nat) : Int) := by omega
        have hw2 : IntKind.i64.wrap ((t : Int) + 1) = ((t + 1 : Nat) : Int) := by rw [wrap64 (by omega) (by omega)]; omega
        have hw4 : IntKind.u64.wrap ((t + 1 : Nat) : Int) = ((t + 1 : Nat) : Int) := wrapu64 (by omega) (by omega)
        obtain ⟨K', hK1, hS'⟩ := sec_load hF hS h4 (by omega)
        rw [hw3] at hK1
        have hld := load_ok K (bat done t).c (bat done t).r (bat done t).s (bat done t).ws none (by rw [hS.last]; omega)
        rw [hK1] at hld
        simp only [bcells, Jd.obs, jcells] at hld
        refine wps_skip ?_
        refine hK20 _ _ ?_
        refine wps_seq fun K22 hK22 => ?_
        refine wps_blk fun K23 hK23 => ?_
        refine wps_seq fun K24 hK24 => ?_
        refine wps_region (by rw [hnt]; rfl) 0 ?_
        simp only [↓evOps, go_sem, Int.reduceAdd, Int.reduceBEq, Int.reduceEq, Int.reduceLE, Int.reduceLT, Int.reduceNe, Int.reduceSub, Int.reduceToNat, Nat.reduceAdd, Nat.reduceBEq, Nat.reduceEqDiff, Nat.reduceLT, Nat.reduceLeDiff, Nat.reduceMul, Nat.reduceSub, reduceCtorEq, reduceIte, hel2]
        repeat (refine And.intro ?_ ?_; · first | rfl | omega | assumption | (simp; done) | (simp; omega) | (intros; omega) | (intros; simp_all; done) | (intros; simp_all; omega) | (and_intros <;> first | rfl | omega | assumption | (simp; done)))
        refine callT_at [3, 4, 5] [_, _, _] hld rfl rfl ⟨rfl, rfl, rfl, trivial⟩ (by simp only [go_sem, reduceIte, Nat.reduceEqDiff, Nat.reduceAdd, Nat.reduceLT]) (by simp only [go_sem, reduceIte, Nat.reduceEqDiff, Nat.reduceAdd, Nat.reduceLT]) rfl (fun N => by (try simp only [go_sem, reduceIte, Nat.reduceEqDiff, Nat.reduceAdd, Nat.reduceLT]); try rfl) (fun N => by (try simp only [go_sem, reduceIte, Nat.reduceEqDiff, Nat.reduceAdd, Nat.reduceLT]); try rfl) ?_
        simp only [↓evOps, go_sem, Int.reduceAdd, Int.reduceBEq, Int.reduceEq, Int.reduceLE, Int.reduceLT, Int.reduceNe, Int.reduceSub, Int.reduceToNat, Nat.reduceAdd, Nat.reduceBEq, Nat.reduceEqDiff, Nat.reduceLT, Nat.reduceLeDiff, Nat.reduceMul, Nat.reduceSub, reduceCtorEq, reduceIte, hel2]
        repeat (refine And.intro ?_ ?_; · first | rfl | omega | assumption | (simp; done) | (simp; omega) | (intros; omega) | (intros; simp_all; done) | (intros; simp_all; omega) | (and_intros <;> first | rfl | omega | assumption | (simp; done)))
        refine hK24 _ _ ?_
        refine wps_seq fun K25 hK25 => ?_
        refine wps_region (by rw [hnt]; rfl) 0 ?_
        simp only [↓evOps, go_sem, Int.reduceAdd, Int.reduceBEq, Int.reduceEq, Int.reduceLE, Int.reduceLT, Int.reduceNe, Int.reduceSub, Int.reduceToNat, Nat.reduceAdd, Nat.reduceBEq, Nat.reduceEqDiff, Nat.reduceLT, Nat.reduceLeDiff, Nat.reduceMul, Nat.reduceSub, reduceCtorEq, reduceIte, hw2, hw4]
        repeat (refine And.intro ?_ ?_; · first | rfl | omega | assumption | (simp; done) | (simp; omega) | (intros; omega) | (intros; simp_all; done) | (intros; simp_all; omega) | (and_intros <;> first | rfl | omega | assumption | (simp; done)))
        refine hK25 _ _ ?_
        refine wps_cond (b := _) rfl (fun h5 => ?_) (fun h5 => ?_)
        · exact absurd h5 (by simp)
        · refine wps_skip ?_
          refine hK23 _ _ ?_
          refine hK22 _ _ ?_
          refine wps_region (by rw [hnt]; rfl) 0 ?_
          simp only [↓evOps, go_sem, Int.reduceAdd, Int.reduceBEq, Int.reduceEq, Int.reduceLE, Int.reduceLT, Int.reduceNe, Int.reduceSub, Int.reduceToNat, Nat.reduceAdd, Nat.reduceBEq, Nat.reduceEqDiff, Nat.reduceLT, Nat.reduceLeDiff, Nat.reduceMul, Nat.reduceSub, reduceCtorEq, reduceIte, hw2]
          repeat (refine And.intro ?_ ?_; · first | rfl | omega | assumption | (simp; done) | (simp; omega) | (intros; omega) | (intros; simp_all; done) | (intros; simp_all; omega) | (and_intros <;> first | rfl | omega | assumption | (simp; done)))
          exact hKM _ _ (done.length - (t + 1)) _ _ (entL hc0 [some 0, some 1, some 2, some 3, some 4, some 5, some 6] rfl rfl (by simp only [go_sem, reduceIte, Nat.reduceEqDiff, Nat.reduceAdd, Nat.reduceLT]) (by simp only [go_sem, reduceIte, Nat.reduceEqDiff, Nat.reduceAdd, Nat.reduceLT])) ⟨t + 1, K', rfl, by omega, hS', rfl, rfl⟩ (by omega)
      · simp at h4
        have htd : t = done.length := by omega
        rw [htd] at hS
        have hT := thi_of hF hS
        refine wps_exit ?_
        simp only [reduceIte, Nat.reduceEqDiff]
        refine hK19 _ _ ?_
        refine hK17 _ _ ?_
        refine wps_seq fun K26 hK26 => ?_
        refine wps_seq fun K27 hK27 => ?_
        refine wps_region (by rw [hnt]; rfl) 0 ?_
        simp only [↓evOps, go_sem, Int.reduceAdd, Int.reduceBEq, Int.reduceEq, Int.reduceLE, Int.reduceLT, Int.reduceNe, Int.reduceSub, Int.reduceToNat, Nat.reduceAdd, Nat.reduceBEq, Nat.reduceEqDiff, Nat.reduceLT, Nat.reduceLeDiff, Nat.reduceMul, Nat.reduceSub, reduceCtorEq, reduceIte]
        repeat (refine And.intro ?_ ?_; · first | rfl | omega | assumption | (simp; done) | (simp; omega) | (intros; omega) | (intros; simp_all; done) | (intros; simp_all; omega) | (and_intros <;> first | rfl | omega | assumption | (simp; done)))
        refine hK27 _ _ ?_
        refine wps_blk fun K28 hK28 => ?_
        refine wps_loop (fun k e σ => ∃ (i : Nat) (J K : Jd), k = ms.length - i ∧ i ≤ ms.length ∧ ThiI bs i J K ∧ e = [(0, .u (.fz (bs.map brow) none)), (1, .u (.fz (ms.map brow) none)), (5, .p 0 0), (6, .p 3 0), (14, .u (.i .i64 i))] ∧ σ = [.cells [.u (.i .u64 J.last), .h 1, .h 2], .map (J.ks.map kent), .map (J.ts.map tent), .cells [.u (.i .u64 K.last), .h 4, .h 5], .map (K.ks.map kent), .map (K.ts.map tent)])
          (e0 := [(0, .u (.fz (bs.map brow) none)), (1, .u (.fz (ms.map brow) none)), (5, .p 0 0), (6, .p 3 0), (14, .u (.i .i64 0))]) (σ0 := [.cells [.u (.i .u64 J.last), .h 1, .h 2], .map (J.ks.map kent), .map (J.ts.map tent), .cells [.u (.i .u64 K.last), .h 4, .h 5], .map (K.ks.map kent), .map (K.ts.map tent)])
          (entL hc0 [some 0, some 1, some 2, some 3, some 4, some 5] rfl rfl (by simp only [go_sem, reduceIte, Nat.reduceEqDiff, Nat.reduceAdd, Nat.reduceLT]) (by simp only [go_sem, reduceIte, Nat.reduceEqDiff, Nat.reduceAdd, Nat.reduceLT])) ⟨0, J, K, rfl, Nat.zero_le _, hT, rfl, rfl⟩ fun KN k3 e3 σ3 hI3 hKN => ?_
        clear hT hS hF hJl
        obtain ⟨i, J, K, rfl, hi, hT, rfl, rfl⟩ := hI3
        refine wps_seq fun K29 hK29 => ?_
        refine wps_seq fun K30 hK30 => ?_
        refine wps_region (by rw [hnt]; rfl) 0 ?_
        simp only [↓evOps, go_sem, Int.reduceAdd, Int.reduceBEq, Int.reduceEq, Int.reduceLE, Int.reduceLT, Int.reduceNe, Int.reduceSub, Int.reduceToNat, Nat.reduceAdd, Nat.reduceBEq, Nat.reduceEqDiff, Nat.reduceLT, Nat.reduceLeDiff, Nat.reduceMul, Nat.reduceSub, reduceCtorEq, reduceIte]
        repeat (refine And.intro ?_ ?_; · first | rfl | omega | assumption | (simp; done) | (simp; omega) | (intros; omega) | (intros; simp_all; done) | (intros; simp_all; omega) | (and_intros <;> first | rfl | omega | assumption | (simp; done)))
        refine hK30 _ _ ?_
        refine wps_cond (b := _) rfl (fun h6 => ?_) (fun h6 => ?_)
        · simp at h6
          have hel := brow_at h6.1
          have hw1 : IntKind.i64.wrap ((i : Int) + 1) = ((i + 1 : Nat) : Int) := by rw [wrap64 (by omega) (by omega)]; omega
          have hwi : IntKind.u64.wrap (i : Int) = (i : Int) := wrapu64 (by omega) (by omega)
          have hwm : IntKind.u64.wrap ((i : Int) + 1000000) = (i : Int) + 1000000 := wrapu64 (by omega) (by omega)
          have hfw := few_ok (bat ms i).c (bat ms i).r (bat ms i).s (bat ms i).ws
          simp only [bcells] at hfw
          refine wps_skip ?_
          refine hK29 _ _ ?_
          refine wps_seq fun K31 hK31 => ?_
          refine wps_blk fun K32 hK32 => ?_
          refine wps_seq fun K33 hK33 => ?_
          refine wps_region (by rw [hnt]; rfl) 1 ?_
          simp only [↓evOps, go_sem, Int.reduceAdd, Int.reduceBEq, Int.reduceEq, Int.reduceLE, Int.reduceLT, Int.reduceNe, Int.reduceSub, Int.reduceToNat, Nat.reduceAdd, Nat.reduceBEq, Nat.reduceEqDiff, Nat.reduceLT, Nat.reduceLeDiff, Nat.reduceMul, Nat.reduceSub, reduceCtorEq, reduceIte, hel]
          repeat (refine And.intro ?_ ?_; · first | rfl | omega | assumption | (simp; done) | (simp; omega) | (intros; omega) | (intros; simp_all; done) | (intros; simp_all; omega) | (and_intros <;> first | rfl | omega | assumption | (simp; done)))
          refine callT_new hfw (by simp only [go_sem, reduceIte, Nat.reduceEqDiff, Nat.reduceAdd, Nat.reduceLT]) ?_
          simp only [retSV, SV.mv, mvs, subL, List.map_nil, List.map_cons, SObj.mv, posOf, back, List.length_cons, List.length_nil, List.getElem?_cons_zero, List.getElem?_cons_succ, Option.map_some, Nat.reduceAdd, Nat.reduceLT, Nat.zero_add, Nat.lt_add_one, List.getD_cons_zero, List.getD_cons_succ, reduceIte, Nat.reduceEqDiff, Env.get, Env.put, and_true, true_and, implies_true]
          simp only [↓evOps, go_sem, Int.reduceAdd, Int.reduceBEq, Int.reduceEq, Int.reduceLE, Int.reduceLT, Int.reduceNe, Int.reduceSub, Int.reduceToNat, Nat.reduceAdd, Nat.reduceBEq, Nat.reduceEqDiff, Nat.reduceLT, Nat.reduceLeDiff, Nat.reduceMul, Nat.reduceSub, reduceCtorEq, reduceIte, hel]
          repeat (refine And.intro ?_ ?_; · first | rfl | omega | assumption | (simp; done) | (simp; omega) | (intros; omega) | (intros; simp_all; done) | (intros; simp_all; omega) | (and_intros <;> first | rfl | omega | assumption | (simp; done)))
          refine hK33 _ _ ?_
          refine wps_seq fun K34 hK34 => ?_
          refine wps_region (by rw [hnt]; rfl) 0 ?_
          simp only [↓evOps, go_sem, Int.reduceAdd, Int.reduceBEq, Int.reduceEq, Int.reduceLE, Int.reduceLT, Int.reduceNe, Int.reduceSub, Int.reduceToNat, Nat.reduceAdd, Nat.reduceBEq, Nat.reduceEqDiff, Nat.reduceLT, Nat.reduceLeDiff, Nat.reduceMul, Nat.reduceSub, reduceCtorEq, reduceIte, hwi, hwm]
          repeat (refine And.intro ?_ ?_; · first | rfl | omega | assumption | (simp; done) | (simp; omega) | (intros; omega) | (intros; simp_all; done) | (intros; simp_all; omega) | (and_intros <;> first | rfl | omega | assumption | (simp; done)))
          refine hK34 _ _ ?_
          refine wps_seq fun K35 hK35 => ?_
          refine wps_seq fun K36 hK36 => ?_
          refine wps_region (by rw [hnt]; rfl) 0 ?_
          simp only [↓evOps, go_sem, Int.reduceAdd, Int.reduceBEq, Int.reduceEq, Int.reduceLE, Int.reduceLT, Int.reduceNe, Int.reduceSub, Int.reduceToNat, Nat.reduceAdd, Nat.reduceBEq, Nat.reduceEqDiff, Nat.reduceLT, Nat.reduceLeDiff, Nat.reduceMul, Nat.reduceSub, reduceCtorEq, reduceIte]
          repeat (refine And.intro ?_ ?_; · first | rfl | omega | assumption | (simp; done) | (simp; omega) | (intros; omega) | (intros; simp_all; done) | (intros; simp_all; omega) | (and_intros <;> first | rfl | omega | assumption | (simp; done)))
          refine hK36 _ _ ?_
          refine wps_blk fun K37 hK37 => ?_
          refine wps_fzlen 0 rfl fun hbl => ?_
          rw [List.length_map] at hbl
          simp only [maxLen] at hbl
          refine wps_loop (fun k e σ => ∃ (q : Nat), k = bs.length - q ∧ q ≤ bs.length ∧ (∀ q', q' < q → (bat bs q').c < 1000000) ∧ e = [(0, .u (.fz (bs.map brow) none)), (1, .u (.fz (ms.map brow) none)), (5, .p 0 0), (6, .p 3 0), (14, .u (.i .i64 i)), (15, .p 6 0), (16, .u (.i .i64 q))] ∧ σ = [.cells [.u (.i .u64 J.last), .h 1, .h 2], .map (J.ks.map kent), .map (J.ts.map tent), .cells [.u (.i .u64 K.last), .h 4, .h 5], .map (K.ks.map kent), .map (K.ts.map tent), .cells [.u (.i .u64 ((i : Int) + 1000000)), .u (.i .u64 1), .u (.i .u64 (bat ms i).s), .u (.fz ((fewW (bat ms i).ws).map wrow) none)]])
            (e0 := [(0, .u (.fz (bs.map brow) none)), (1, .u (.fz (ms.map brow) none)), (5, .p 0 0), (6, .p 3 0), (14, .u (.i .i64 i)), (15, .p 6 0), (16, .u (.i .i64 0))]) (σ0 := [.cells [.u (.i .u64 J.last), .h 1, .h 2], .map (J.ks.map kent), .map (J.ts.map tent), .cells [.u (.i .u64 K.last), .h 4, .h 5], .map (K.ks.map kent), .map (K.ts.map tent), .cells [.u (.i .u64 ((i : Int) + 1000000)), .u (.i .u64 1), .u (.i .u64 (bat ms i).s), .u (.fz ((fewW (bat ms i).ws).map wrow) none)]])
            (entL hc0 [some 0, some 1, some 2, some 3, some 4, some 5, some 6] rfl rfl (by simp only [go_sem, reduceIte, Nat.reduceEqDiff, Nat.reduceAdd, Nat.reduceLT]) (by simp only [go_sem, reduceIte, Nat.reduceEqDiff, Nat.reduceAdd, Nat.reduceLT])) ⟨0, rfl, Nat.zero_le _, fun q' h => by omega, rfl, rfl⟩ fun KQ k4 e4 σ4 hI4 hKQ => ?_
          obtain ⟨q, rfl, hq, hqs, rfl, rfl⟩ := hI4
          refine wps_seq fun K38 hK38 => ?_
          refine wps_seq fun K39 hK39 => ?_
          refine wps_region (by rw [hnt]; rfl) 0 ?_
          simp only [↓evOps, go_sem, Int.reduceAdd, Int.reduceBEq, Int.reduceEq, Int.reduceLE, Int.reduceLT, Int.reduceNe, Int.reduceSub, Int.reduceToNat, Nat.reduceAdd, Nat.reduceBEq, Nat.reduceEqDiff, Nat.reduceLT, Nat.reduceLeDiff, Nat.reduceMul, Nat.reduceSub, reduceCtorEq, reduceIte]
          repeat (refine And.intro ?_ ?_; · first | rfl | omega | assumption | (simp; done) | (simp; omega) | (intros; omega) | (intros; simp_all; done) | (intros; simp_all; omega) | (and_intros <;> first | rfl | omega | assumption | (simp; done)))
          refine hK39 _ _ ?_
          refine wps_cond (b := _) rfl (fun h7 => ?_) (fun h7 => ?_)
          · simp at h7
            have hel4 := brow_at h7
            have hw5 : IntKind.i64.wrap ((q : Int) + 1) = ((q + 1 : Nat) : Int) := by rw [wrap64 (by omega) (by omega)]; omega
            refine wps_skip ?_
            refine hK38 _ _ ?_
            refine wps_seq fun K40 hK40 => ?_
            refine wps_blk fun K41 hK41 => ?_
            refine wps_seq fun K42 hK42 => ?_
            refine wps_region (by rw [hnt]; rfl) 0 ?_
            simp only [↓evOps, go_sem, Int.reduceAdd, Int.reduceBEq, Int.reduceEq, Int.reduceLE, Int.reduceLT, Int.reduceNe, Int.reduceSub, Int.reduceToNat, Nat.reduceAdd, Nat.reduceBEq, Nat.reduceEqDiff, Nat.reduceLT, Nat.reduceLeDiff, Nat.reduceMul, Nat.reduceSub, reduceCtorEq, reduceIte, hel4]
            repeat (refine And.intro ?_ ?_; · first | rfl | omega | assumption | (simp; done) | (simp; omega) | (intros; omega) | (intros; simp_all; done) | (intros; simp_all; omega) | (and_intros <;> first | rfl | omega | assumption | (simp; done)))
            refine hK42 _ _ ?_
            refine wps_cond (b := _) rfl (fun h8 => ?_) (fun h8 => ?_)
            · refine wps_seq fun K43 hK43 => ?_
              refine wps_region (by rw [hnt]; rfl) 0 ?_
              simp only [↓evOps, go_sem, Int.reduceAdd, Int.reduceBEq, Int.reduceEq, Int.reduceLE, Int.reduceLT, Int.reduceNe, Int.reduceSub, Int.reduceToNat, Nat.reduceAdd, Nat.reduceBEq, Nat.reduceEqDiff, Nat.reduceLT, Nat.reduceLeDiff, Nat.reduceMul, Nat.reduceSub, reduceCtorEq, reduceIte]
              repeat (refine And.intro ?_ ?_; · first | rfl | omega | assumption | (simp; done) | (simp; omega) | (intros; omega) | (intros; simp_all; done) | (intros; simp_all; omega) | (and_intros <;> first | rfl | omega | assumption | (simp; done)))
              refine hK43 _ _ ?_
              refine wps_ret ?_
              refine retL [] rfl ⟨trivial, trivial⟩ rfl rfl ?_
              simp only [retSV, SV.mv, mvs, subL, List.map_nil, List.map_cons, SObj.mv, posOf, back, List.length_cons, List.length_nil, List.getElem?_cons_zero, List.getElem?_cons_succ, Option.map_some, Nat.reduceAdd, Nat.reduceLT, Nat.zero_add, Nat.lt_add_one, List.getD_cons_zero, List.getD_cons_succ, reduceIte, Nat.reduceEqDiff, Env.get, Env.put, and_true, true_and, implies_true]
            · refine wps_skip ?_
              refine hK41 _ _ ?_
              refine hK40 _ _ ?_
              refine wps_region (by rw [hnt]; rfl) 0 ?_
              simp only [↓evOps, go_sem, Int.reduceAdd, Int.reduceBEq, Int.reduceEq, Int.reduceLE, Int.reduceLT, Int.reduceNe, Int.reduceSub, Int.reduceToNat, Nat.reduceAdd, Nat.reduceBEq, Nat.reduceEqDiff, Nat.reduceLT, Nat.reduceLeDiff, Nat.reduceMul, Nat.reduceSub, reduceCtorEq, reduceIte, hw5]
              repeat (refine And.intro ?_ ?_; · first | rfl | omega | assumption | (simp; done) | (simp; omega) | (intros; omega) | (intros; simp_all; done) | (intros; simp_all; omega) | (and_intros <;> first | rfl | omega | assumption | (simp; done)))
              exact hKQ _ _ (bs.length - (q + 1)) _ _ (entL hc0 [some 0, some 1, some 2, some 3, some 4, some 5, some 6] rfl rfl (by simp only [go_sem, reduceIte, Nat.reduceEqDiff, Nat.reduceAdd, Nat.reduceLT]) (by simp only [go_sem, reduceIte, Nat.reduceEqDiff, Nat.reduceAdd, Nat.reduceLT])) ⟨q + 1, rfl, by omega, fun q' hq' => by
                by_cases he : q' = q
                · subst he; simpa using h8
                · exact hqs q' (by omega), rfl, rfl⟩ (by omega)
          · simp at h7
            have hb : ∀ b ∈ bs, b.c < 1000000 := by
              intro b hb
              obtain ⟨x, hx, he⟩ := List.mem_iff_getElem.1 hb
              have := hqs x (by omega)
              rw [bat, List.getD_eq_getElem?_getD, List.getElem?_eq_getElem hx, he] at this
              exact this
            obtain ⟨v, J', K', hj, hk, hT'⟩ := thi_say hT hb (bat ms i).s (fewW (bat ms i).ws)
            have hsj := say_ok J ((i : Int) + 1000000) 1 (bat ms i).s (fewW (bat ms i).ws) none hT.lo
            have hsk := say_ok K ((i : Int) + 1000000) 1 (bat ms i).s (fewW (bat ms i).ws) none (by rw [hT.last]; exact hT.lo)
            rw [hj] at hsj
            rw [hk] at hsk
            simp only [bcells, Jd.obs, jcells] at hsj hsk
            refine wps_exit ?_
            simp only [reduceIte, Nat.reduceEqDiff]
            refine hK37 _ _ ?_
            refine hK35 _ _ ?_
            refine wps_seq fun K44 hK44 => ?_
            refine wps_drawL mixed (by rw [hnt]; rfl) (by kernel_rfl) 0 (ms := [0, 0, 3, 0, 0, 31, 63]) (by kernel_rfl) ?_
            simp only [↓evOps, go_sem, Int.reduceAdd, Int.reduceBEq, Int.reduceEq, Int.reduceLE, Int.reduceLT, Int.reduceNe, Int.reduceSub, Int.reduceToNat, Nat.reduceAdd, Nat.reduceBEq, Nat.reduceEqDiff, Nat.reduceLT, Nat.reduceLeDiff, Nat.reduceMul, Nat.reduceSub, reduceCtorEq, reduceIte]
            repeat (refine And.intro ?_ ?_; · first | rfl | omega | assumption | (simp; done) | (simp; omega) | (intros; omega) | (intros; simp_all; done) | (intros; simp_all; omega) | (and_intros <;> first | rfl | omega | assumption | (simp; done)))
            refine callE_at [0, 1, 2] [_, _, _] hsj rfl rfl ⟨rfl, rfl, rfl, trivial⟩ (by simp only [go_sem, reduceIte, Nat.reduceEqDiff, Nat.reduceAdd, Nat.reduceLT]) (by simp only [go_sem, reduceIte, Nat.reduceEqDiff, Nat.reduceAdd, Nat.reduceLT]) rfl (fun N => by (try simp only [go_sem, reduceIte, Nat.reduceEqDiff, Nat.reduceAdd, Nat.reduceLT]); try rfl) (fun N => by (try simp only [go_sem, reduceIte, Nat.reduceEqDiff, Nat.reduceAdd, Nat.reduceLT]); try rfl) ?_
            simp only [↓evOps, go_sem, Int.reduceAdd, Int.reduceBEq, Int.reduceEq, Int.reduceLE, Int.reduceLT, Int.reduceNe, Int.reduceSub, Int.reduceToNat, Nat.reduceAdd, Nat.reduceBEq, Nat.reduceEqDiff, Nat.reduceLT, Nat.reduceLeDiff, Nat.reduceMul, Nat.reduceSub, reduceCtorEq, reduceIte]
            repeat (refine And.intro ?_ ?_; · first | rfl | omega | assumption | (simp; done) | (simp; omega) | (intros; omega) | (intros; simp_all; done) | (intros; simp_all; omega) | (and_intros <;> first | rfl | omega | assumption | (simp; done)))
            refine callE_at [3, 4, 5] [_, _, _] hsk rfl rfl ⟨rfl, rfl, rfl, trivial⟩ (by simp only [go_sem, reduceIte, Nat.reduceEqDiff, Nat.reduceAdd, Nat.reduceLT]) (by simp only [go_sem, reduceIte, Nat.reduceEqDiff, Nat.reduceAdd, Nat.reduceLT]) rfl (fun N => by (try simp only [go_sem, reduceIte, Nat.reduceEqDiff, Nat.reduceAdd, Nat.reduceLT]); try rfl) (fun N => by (try simp only [go_sem, reduceIte, Nat.reduceEqDiff, Nat.reduceAdd, Nat.reduceLT]); try rfl) ?_
            simp only [↓evOps, go_sem, Int.reduceAdd, Int.reduceBEq, Int.reduceEq, Int.reduceLE, Int.reduceLT, Int.reduceNe, Int.reduceSub, Int.reduceToNat, Nat.reduceAdd, Nat.reduceBEq, Nat.reduceEqDiff, Nat.reduceLT, Nat.reduceLeDiff, Nat.reduceMul, Nat.reduceSub, reduceCtorEq, reduceIte]
            repeat (refine And.intro ?_ ?_; · first | rfl | omega | assumption | (simp; done) | (simp; omega) | (intros; omega) | (intros; simp_all; done) | (intros; simp_all; omega) | (and_intros <;> first | rfl | omega | assumption | (simp; done)))
            refine hK44 _ _ ?_
            refine wps_cond (b := _) rfl (fun h9 => ?_) (fun h9 => ?_)
            · exact absurd h9 (by simp)
            · refine wps_skip ?_
              refine hK32 _ _ ?_
              refine hK31 _ _ ?_
              refine wps_region (by rw [hnt]; rfl) 0 ?_
              simp only [↓evOps, go_sem, Int.reduceAdd, Int.reduceBEq, Int.reduceEq, Int.reduceLE, Int.reduceLT, Int.reduceNe, Int.reduceSub, Int.reduceToNat, Nat.reduceAdd, Nat.reduceBEq, Nat.reduceEqDiff, Nat.reduceLT, Nat.reduceLeDiff, Nat.reduceMul, Nat.reduceSub, reduceCtorEq, reduceIte, hw1]
              repeat (refine And.intro ?_ ?_; · first | rfl | omega | assumption | (simp; done) | (simp; omega) | (intros; omega) | (intros; simp_all; done) | (intros; simp_all; omega) | (and_intros <;> first | rfl | omega | assumption | (simp; done)))
              exact hKN _ _ (ms.length - (i + 1)) _ _ (entL hc0 [some 0, some 1, some 2, some 3, some 4, some 5] rfl rfl (by simp only [go_sem, reduceIte, Nat.reduceEqDiff, Nat.reduceAdd, Nat.reduceLT]) (by simp only [go_sem, reduceIte, Nat.reduceEqDiff, Nat.reduceAdd, Nat.reduceLT])) ⟨i + 1, J', K', rfl, by omega, hT', rfl, rfl⟩ (by omega)
        · have hlj := last_ok J.last (J.ks.map kent) (J.ts.map tent)
          have hlk := last_ok K.last (K.ks.map kent) (K.ts.map tent)
          simp only [jcells] at hlj hlk
          refine wps_exit ?_
          simp only [reduceIte, Nat.reduceEqDiff]
          refine hK28 _ _ ?_
          refine hK26 _ _ ?_
          refine wps_seq fun K45 hK45 => ?_
          refine wps_region (by rw [hnt]; rfl) 0 ?_
          simp only [↓evOps, go_sem, Int.reduceAdd, Int.reduceBEq, Int.reduceEq, Int.reduceLE, Int.reduceLT, Int.reduceNe, Int.reduceSub, Int.reduceToNat, Nat.reduceAdd, Nat.reduceBEq, Nat.reduceEqDiff, Nat.reduceLT, Nat.reduceLeDiff, Nat.reduceMul, Nat.reduceSub, reduceCtorEq, reduceIte]
          repeat (refine And.intro ?_ ?_; · first | rfl | omega | assumption | (simp; done) | (simp; omega) | (intros; omega) | (intros; simp_all; done) | (intros; simp_all; omega) | (and_intros <;> first | rfl | omega | assumption | (simp; done)))
          refine callT_at [0, 1, 2] [_, _, _] hlj rfl rfl ⟨rfl, rfl, rfl, trivial⟩ (by simp only [go_sem, reduceIte, Nat.reduceEqDiff, Nat.reduceAdd, Nat.reduceLT]) (by simp only [go_sem, reduceIte, Nat.reduceEqDiff, Nat.reduceAdd, Nat.reduceLT]) rfl (fun N => by (try simp only [go_sem, reduceIte, Nat.reduceEqDiff, Nat.reduceAdd, Nat.reduceLT]); try rfl) (fun N => by (try simp only [go_sem, reduceIte, Nat.reduceEqDiff, Nat.reduceAdd, Nat.reduceLT]); try rfl) ?_
          simp only [↓evOps, go_sem, Int.reduceAdd, Int.reduceBEq, Int.reduceEq, Int.reduceLE, Int.reduceLT, Int.reduceNe, Int.reduceSub, Int.reduceToNat, Nat.reduceAdd, Nat.reduceBEq, Nat.reduceEqDiff, Nat.reduceLT, Nat.reduceLeDiff, Nat.reduceMul, Nat.reduceSub, reduceCtorEq, reduceIte]
          repeat (refine And.intro ?_ ?_; · first | rfl | omega | assumption | (simp; done) | (simp; omega) | (intros; omega) | (intros; simp_all; done) | (intros; simp_all; omega) | (and_intros <;> first | rfl | omega | assumption | (simp; done)))
          refine callT_at [3, 4, 5] [_, _, _] hlk rfl rfl ⟨rfl, rfl, rfl, trivial⟩ (by simp only [go_sem, reduceIte, Nat.reduceEqDiff, Nat.reduceAdd, Nat.reduceLT]) (by simp only [go_sem, reduceIte, Nat.reduceEqDiff, Nat.reduceAdd, Nat.reduceLT]) rfl (fun N => by (try simp only [go_sem, reduceIte, Nat.reduceEqDiff, Nat.reduceAdd, Nat.reduceLT]); try rfl) (fun N => by (try simp only [go_sem, reduceIte, Nat.reduceEqDiff, Nat.reduceAdd, Nat.reduceLT]); try rfl) ?_
          simp only [↓evOps, go_sem, Int.reduceAdd, Int.reduceBEq, Int.reduceEq, Int.reduceLE, Int.reduceLT, Int.reduceNe, Int.reduceSub, Int.reduceToNat, Nat.reduceAdd, Nat.reduceBEq, Nat.reduceEqDiff, Nat.reduceLT, Nat.reduceLeDiff, Nat.reduceMul, Nat.reduceSub, reduceCtorEq, reduceIte]
          repeat (refine And.intro ?_ ?_; · first | rfl | omega | assumption | (simp; done) | (simp; omega) | (intros; omega) | (intros; simp_all; done) | (intros; simp_all; omega) | (and_intros <;> first | rfl | omega | assumption | (simp; done)))
          refine hK45 _ _ ?_
          refine wps_ret ?_
          refine retL [] rfl ⟨trivial, trivial⟩ rfl rfl ?_
          simp only [retSV, SV.mv, mvs, subL, List.map_nil, List.map_cons, SObj.mv, posOf, back, List.length_cons, List.length_nil, List.getElem?_cons_zero, List.getElem?_cons_succ, Option.map_some, Nat.reduceAdd, Nat.reduceLT, Nat.zero_add, Nat.lt_add_one, List.getD_cons_zero, List.getD_cons_succ, reduceIte, Nat.reduceEqDiff, Env.get, Env.put, and_true, true_and, implies_true, hT.last, beq_self_eq_true]
end Go.Proofs.Ytiipndbcddgjlaa
