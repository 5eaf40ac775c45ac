import Derived.Test.YteoihmgigmiajaaB1
set_option linter.all false
set_option linter.unusedSimpArgs false
set_option linter.unusedVariables false
namespace Go.Proofs.Yteoihmgigmiajaa
open Go.Nm

/-- short enough to be written anew -/
def roomy (ps : List Pk) : Prop := ps.length ≤ 1000000

/-- a clone, never written again -/
theorem clone_ok (ps : List Pk) (q : Option Nat) (hw : roomy ps) : CallT Try.prog 19 [.u (.fz (ps.map prow) q)] [] fun r σ => r = .u (.fz (ps.map prow) none) ∧ σ = [] := by
  unfold roomy at hw
  obtain ⟨hs1, hs2⟩ := prow_ok ps
  refine callT_ofL 8 [.tmp 2] Try.func19 rfl Try.ntmps19 rfl (Nat.le_of_ble_eq_true rfl) fun c hnt hc0 => ?_
  refine wps_seq fun K1 hK1 => ?_
  refine wps_region (by rw [hnt]; rfl) 0 ?_
  simp only [↓kOps_app, ↓evOps_nil, ↓evOps_cons, go_sem, Int.reduceAdd, Int.reduceBEq, Int.reduceEq, Int.reduceLE, Int.reduceLT, Int.reduceNe, Int.reduceSub, Int.reduceToNat, Nat.reduceAdd, Nat.reduceBEq, Nat.reduceEqDiff, Nat.reduceLT, Nat.reduceLeDiff, Nat.reduceMul, Nat.reduceSub, reduceCtorEq, reduceIte]
  repeat (refine And.intro ?_ ?_; · first | rfl | omega | assumption | (simp; done) | (simp; omega) | (intros; omega) | (intros; simp_all; done) | (intros; simp_all; omega) | (and_intros <;> first | rfl | omega | assumption | (simp; done)))
  refine hK1 _ _ ?_
  refine wps_seq fun K2 hK2 => ?_
  refine wps_seq fun K3 hK3 => ?_
  refine wps_nilL (els := ps.map prow) (q := q) (by rw [hnt]; decide) (by rw [hnt]; decide) Try.underlying29 rfl fun b hb => ?_
  refine hK3 _ _ ?_
  refine wps_cond (b := _) rfl (fun h1 => ?_) (fun h1 => ?_)
  · refine wps_seq fun K4 hK4 => ?_
    refine wps_region (by rw [hnt]; rfl) 0 ?_
    simp only [↓kOps_app, ↓evOps_nil, ↓evOps_cons, go_sem, Int.reduceAdd, Int.reduceBEq, Int.reduceEq, Int.reduceLE, Int.reduceLT, Int.reduceNe, Int.reduceSub, Int.reduceToNat, Nat.reduceAdd, Nat.reduceBEq, Nat.reduceEqDiff, Nat.reduceLT, Nat.reduceLeDiff, Nat.reduceMul, Nat.reduceSub, reduceCtorEq, reduceIte]
    repeat (refine And.intro ?_ ?_; · first | rfl | omega | assumption | (simp; done) | (simp; omega) | (intros; omega) | (intros; simp_all; done) | (intros; simp_all; omega) | (and_intros <;> first | rfl | omega | assumption | (simp; done)))
    refine hK4 _ _ ?_
    have hnil : ps = [] := by simpa using hb h1
    subst hnil
    refine wps_ent (e' := [(2, .u (.fz [] none))]) (σ' := []) ((ent_cap 2 (els := []) (q := some 0) rfl).trans (entL hc0 [] rfl rfl (by simp only [go_sem, reduceIte, Nat.reduceEqDiff, Nat.reduceAdd, Nat.reduceLT]) (by simp only [go_sem, reduceIte, Nat.reduceEqDiff, Nat.reduceAdd, Nat.reduceLT]))) ?_
    refine wps_ret ?_
    refine retL [] (by simp only [resAll, resSV, ↓kOps_app, ↓evOps_nil, ↓evOps_cons, go_sem, Int.reduceAdd, Int.reduceBEq, Int.reduceEq, Int.reduceLE, Int.reduceLT, Int.reduceNe, Int.reduceSub, Int.reduceToNat, Nat.reduceAdd, Nat.reduceBEq, Nat.reduceEqDiff, Nat.reduceLT, Nat.reduceLeDiff, Nat.reduceMul, Nat.reduceSub, reduceCtorEq, reduceIte]; rfl) (by simp only [resObs, resOb, ↓kOps_app, ↓evOps_nil, ↓evOps_cons, go_sem, Int.reduceAdd, Int.reduceBEq, Int.reduceEq, Int.reduceLE, Int.reduceLT, Int.reduceNe, Int.reduceSub, Int.reduceToNat, Nat.reduceAdd, Nat.reduceBEq, Nat.reduceEqDiff, Nat.reduceLT, Nat.reduceLeDiff, Nat.reduceMul, Nat.reduceSub, reduceCtorEq, reduceIte]) rfl rfl ?_
    simp only [retSV, SV.mv, mvs, subL, List.map_nil, List.map_cons, SObj.mv, posOf, back, List.length_cons, List.length_nil, List.getElem?_cons_zero, List.getElem?_cons_succ, Option.map_some, Nat.reduceAdd, Nat.reduceLT, Nat.zero_add, Nat.lt_add_one, List.getD_cons_zero, List.getD_cons_succ, reduceIte, Nat.reduceEqDiff, Env.get, Env.put, and_true, true_and, implies_true]
  · refine wps_skip ?_
    refine hK2 _ _ ?_
    refine wps_seq fun K5 hK5 => ?_
    refine wps_region (by rw [hnt]; rfl) 1 ?_
    simp only [↓kOps_app, ↓evOps_nil, ↓evOps_cons, go_sem, Int.reduceAdd, Int.reduceBEq, Int.reduceEq, Int.reduceLE, Int.reduceLT, Int.reduceNe, Int.reduceSub, Int.reduceToNat, Nat.reduceAdd, Nat.reduceBEq, Nat.reduceEqDiff, Nat.reduceLT, Nat.reduceLeDiff, Nat.reduceMul, Nat.reduceSub, reduceCtorEq, reduceIte]
    repeat (refine And.intro ?_ ?_; · first | rfl | omega | assumption | (simp; done) | (simp; omega) | (intros; omega) | (intros; simp_all; done) | (intros; simp_all; omega) | (and_intros <;> first | rfl | omega | assumption | (simp; done)))
    refine hK5 _ _ ?_
    refine wps_ent (e' := [(2, .u (.fz (ps.map prow) none))]) (σ' := []) ((entF 0 rfl (e' := [(2, .u (.fz (ps.map prow) none))]) (by simp only [go_sem, reduceIte, Nat.reduceEqDiff, Nat.reduceAdd, Nat.reduceLT]) rfl).trans (entL hc0 [] rfl rfl (by simp only [go_sem, reduceIte, Nat.reduceEqDiff, Nat.reduceAdd, Nat.reduceLT]) (by simp only [go_sem, reduceIte, Nat.reduceEqDiff, Nat.reduceAdd, Nat.reduceLT]))) ?_
    refine wps_ret ?_
    refine retL [] (by simp only [resAll, resSV, ↓kOps_app, ↓evOps_nil, ↓evOps_cons, go_sem, Int.reduceAdd, Int.reduceBEq, Int.reduceEq, Int.reduceLE, Int.reduceLT, Int.reduceNe, Int.reduceSub, Int.reduceToNat, Nat.reduceAdd, Nat.reduceBEq, Nat.reduceEqDiff, Nat.reduceLT, Nat.reduceLeDiff, Nat.reduceMul, Nat.reduceSub, reduceCtorEq, reduceIte]; rfl) (by simp only [resObs, resOb, ↓kOps_app, ↓evOps_nil, ↓evOps_cons, go_sem, Int.reduceAdd, Int.reduceBEq, Int.reduceEq, Int.reduceLE, Int.reduceLT, Int.reduceNe, Int.reduceSub, Int.reduceToNat, Nat.reduceAdd, Nat.reduceBEq, Nat.reduceEqDiff, Nat.reduceLT, Nat.reduceLeDiff, Nat.reduceMul, Nat.reduceSub, reduceCtorEq, reduceIte]) rfl rfl ?_
    simp only [retSV, SV.mv, mvs, subL, List.map_nil, List.map_cons, SObj.mv, posOf, back, List.length_cons, List.length_nil, List.getElem?_cons_zero, List.getElem?_cons_succ, Option.map_some, Nat.reduceAdd, Nat.reduceLT, Nat.zero_add, Nat.lt_add_one, List.getD_cons_zero, List.getD_cons_succ, reduceIte, Nat.reduceEqDiff, Env.get, Env.put, and_true, true_and, implies_true]

/-- a clone that may be written -/
theorem cloneR (ps : List Pk) (q : Option Nat) (hw : roomy ps) (hp : ps ≠ []) : CallT Try.prog 19 [.u (.fz (ps.map prow) q)] [] fun r σ => r = .h 0 ∧ σ = [] ++ [.row 33 3 (ps.map prow)] := by
  unfold roomy at hw
  obtain ⟨hs1, hs2⟩ := prow_ok ps
  refine callT_ofL 8 [.tmp 2] Try.func19 rfl Try.ntmps19 rfl (Nat.le_of_ble_eq_true rfl) fun c hnt hc0 => ?_
  refine wps_seq fun K1 hK1 => ?_
  refine wps_region (by rw [hnt]; rfl) 0 ?_
  simp only [↓kOps_app, ↓evOps_nil, ↓evOps_cons, go_sem, Int.reduceAdd, Int.reduceBEq, Int.reduceEq, Int.reduceLE, Int.reduceLT, Int.reduceNe, Int.reduceSub, Int.reduceToNat, Nat.reduceAdd, Nat.reduceBEq, Nat.reduceEqDiff, Nat.reduceLT, Nat.reduceLeDiff, Nat.reduceMul, Nat.reduceSub, reduceCtorEq, reduceIte]
  repeat (refine And.intro ?_ ?_; · first | rfl | omega | assumption | (simp; done) | (simp; omega) | (intros; omega) | (intros; simp_all; done) | (intros; simp_all; omega) | (and_intros <;> first | rfl | omega | assumption | (simp; done)))
  refine hK1 _ _ ?_
  refine wps_seq fun K2 hK2 => ?_
  refine wps_seq fun K3 hK3 => ?_
  refine wps_nilL (els := ps.map prow) (q := q) (by rw [hnt]; decide) (by rw [hnt]; decide) Try.underlying29 rfl fun b hb => ?_
  refine hK3 _ _ ?_
  refine wps_cond (b := _) rfl (fun h1 => ?_) (fun h1 => ?_)
  · exact absurd (by simpa using hb h1) hp
  · refine wps_skip ?_
    refine hK2 _ _ ?_
    refine wps_seq fun K4 hK4 => ?_
    refine wps_region (by rw [hnt]; rfl) 1 ?_
    simp only [↓kOps_app, ↓evOps_nil, ↓evOps_cons, go_sem, Int.reduceAdd, Int.reduceBEq, Int.reduceEq, Int.reduceLE, Int.reduceLT, Int.reduceNe, Int.reduceSub, Int.reduceToNat, Nat.reduceAdd, Nat.reduceBEq, Nat.reduceEqDiff, Nat.reduceLT, Nat.reduceLeDiff, Nat.reduceMul, Nat.reduceSub, reduceCtorEq, reduceIte]
    repeat (refine And.intro ?_ ?_; · first | rfl | omega | assumption | (simp; done) | (simp; omega) | (intros; omega) | (intros; simp_all; done) | (intros; simp_all; omega) | (and_intros <;> first | rfl | omega | assumption | (simp; done)))
    refine hK4 _ _ ?_
    refine wps_ret ?_
    refine retL [some 0] (by simp only [resAll, resSV, ↓kOps_app, ↓evOps_nil, ↓evOps_cons, go_sem, Int.reduceAdd, Int.reduceBEq, Int.reduceEq, Int.reduceLE, Int.reduceLT, Int.reduceNe, Int.reduceSub, Int.reduceToNat, Nat.reduceAdd, Nat.reduceBEq, Nat.reduceEqDiff, Nat.reduceLT, Nat.reduceLeDiff, Nat.reduceMul, Nat.reduceSub, reduceCtorEq, reduceIte]; rfl) (by simp only [resObs, resOb, ↓kOps_app, ↓evOps_nil, ↓evOps_cons, go_sem, Int.reduceAdd, Int.reduceBEq, Int.reduceEq, Int.reduceLE, Int.reduceLT, Int.reduceNe, Int.reduceSub, Int.reduceToNat, Nat.reduceAdd, Nat.reduceBEq, Nat.reduceEqDiff, Nat.reduceLT, Nat.reduceLeDiff, Nat.reduceMul, Nat.reduceSub, reduceCtorEq, reduceIte]) rfl rfl ?_
    simp only [retSV, SV.mv, mvs, subL, List.map_nil, List.map_cons, SObj.mv, posOf, back, List.length_cons, List.length_nil, List.getElem?_cons_zero, List.getElem?_cons_succ, Option.map_some, Nat.reduceAdd, Nat.reduceLT, Nat.zero_add, Nat.lt_add_one, List.getD_cons_zero, List.getD_cons_succ, reduceIte, Nat.reduceEqDiff, Env.get, Env.put, and_true, true_and, implies_true, List.nil_append]

theorem list_ok (R : Nat) (ps : List Pk) (q : Option Nat) (hw : roomy ps) : CallT Try.prog 16 [.p 0 0] (bagC R ps q) fun r σ => r = .u (.fz (ps.map prow) none) ∧ σ = bagC R ps q := by
  have hcl := clone_ok ps q hw
  unfold bagC
  refine callT_ofL 8 [.tmp 2] Try.func16 rfl Try.ntmps16 rfl (Nat.le_of_ble_eq_true rfl) fun c hnt hc0 => ?_
  refine wps_seq fun K1 hK1 => ?_
  refine wps_region (by rw [hnt]; rfl) 0 ?_
  simp only [↓kOps_app, ↓evOps_nil, ↓evOps_cons, go_sem, Int.reduceAdd, Int.reduceBEq, Int.reduceEq, Int.reduceLE, Int.reduceLT, Int.reduceNe, Int.reduceSub, Int.reduceToNat, Nat.reduceAdd, Nat.reduceBEq, Nat.reduceEqDiff, Nat.reduceLT, Nat.reduceLeDiff, Nat.reduceMul, Nat.reduceSub, reduceCtorEq, reduceIte]
  repeat (refine And.intro ?_ ?_; · first | rfl | omega | assumption | (simp; done) | (simp; omega) | (intros; omega) | (intros; simp_all; done) | (intros; simp_all; omega) | (and_intros <;> first | rfl | omega | assumption | (simp; done)))
  refine hK1 _ _ ?_
  refine wps_seq fun K2 hK2 => ?_
  refine wps_region (by rw [hnt]; rfl) 0 ?_
  simp only [↓kOps_app, ↓evOps_nil, ↓evOps_cons, go_sem, Int.reduceAdd, Int.reduceBEq, Int.reduceEq, Int.reduceLE, Int.reduceLT, Int.reduceNe, Int.reduceSub, Int.reduceToNat, Nat.reduceAdd, Nat.reduceBEq, Nat.reduceEqDiff, Nat.reduceLT, Nat.reduceLeDiff, Nat.reduceMul, Nat.reduceSub, reduceCtorEq, reduceIte]
  repeat (refine And.intro ?_ ?_; · first | rfl | omega | assumption | (simp; done) | (simp; omega) | (intros; omega) | (intros; simp_all; done) | (intros; simp_all; omega) | (and_intros <;> first | rfl | omega | assumption | (simp; done)))
  refine callT_at [] [] hcl rfl rfl trivial (by simp only [go_sem, reduceIte, Nat.reduceEqDiff, Nat.reduceAdd, Nat.reduceLT]) (by simp only [go_sem, reduceIte, Nat.reduceEqDiff, Nat.reduceAdd, Nat.reduceLT]) rfl (fun N => by (try simp only [go_sem, reduceIte, Nat.reduceEqDiff, Nat.reduceAdd, Nat.reduceLT]); try rfl) (fun N => by (try simp only [go_sem, reduceIte, Nat.reduceEqDiff, Nat.reduceAdd, Nat.reduceLT]); try rfl) ?_
  simp only [↓kOps_app, ↓evOps_nil, ↓evOps_cons, go_sem, Int.reduceAdd, Int.reduceBEq, Int.reduceEq, Int.reduceLE, Int.reduceLT, Int.reduceNe, Int.reduceSub, Int.reduceToNat, Nat.reduceAdd, Nat.reduceBEq, Nat.reduceEqDiff, Nat.reduceLT, Nat.reduceLeDiff, Nat.reduceMul, Nat.reduceSub, reduceCtorEq, reduceIte]
  repeat (refine And.intro ?_ ?_; · first | rfl | omega | assumption | (simp; done) | (simp; omega) | (intros; omega) | (intros; simp_all; done) | (intros; simp_all; omega) | (and_intros <;> first | rfl | omega | assumption | (simp; done)))
  refine hK2 _ _ ?_
  refine wps_ret ?_
  refine retL [some 0] (by simp only [resAll, resSV, ↓kOps_app, ↓evOps_nil, ↓evOps_cons, go_sem, Int.reduceAdd, Int.reduceBEq, Int.reduceEq, Int.reduceLE, Int.reduceLT, Int.reduceNe, Int.reduceSub, Int.reduceToNat, Nat.reduceAdd, Nat.reduceBEq, Nat.reduceEqDiff, Nat.reduceLT, Nat.reduceLeDiff, Nat.reduceMul, Nat.reduceSub, reduceCtorEq, reduceIte]; rfl) (by simp only [resObs, resOb, ↓kOps_app, ↓evOps_nil, ↓evOps_cons, go_sem, Int.reduceAdd, Int.reduceBEq, Int.reduceEq, Int.reduceLE, Int.reduceLT, Int.reduceNe, Int.reduceSub, Int.reduceToNat, Nat.reduceAdd, Nat.reduceBEq, Nat.reduceEqDiff, Nat.reduceLT, Nat.reduceLeDiff, Nat.reduceMul, Nat.reduceSub, reduceCtorEq, reduceIte]) rfl rfl ?_
  simp only [retSV, SV.mv, mvs, subL, List.map_nil, List.map_cons, SObj.mv, posOf, back, List.length_cons, List.length_nil, List.getElem?_cons_zero, List.getElem?_cons_succ, Option.map_some, Nat.reduceAdd, Nat.reduceLT, Nat.zero_add, Nat.lt_add_one, List.getD_cons_zero, List.getD_cons_succ, reduceIte, Nat.reduceEqDiff, Env.get, Env.put, and_true, true_and, implies_true]

/-- one packet less -/
theorem del_ok (ps : List Pk) (i : Nat) (hw : roomy ps) (hi : i < ps.length) : CallT Try.prog 18 [.h 0, .u (.i .i64 (i : Int)), .u (.i .i64 ((i + 1 : Nat) : Int))] [.row 33 3 (ps.map prow)]
    fun r σ => r = .u (.fz ((ps.take i ++ ps.drop (i + 1)).map prow) none) ∧ σ = [.dead] := by
  unfold roomy at hw
  obtain ⟨hs1, hs2⟩ := prow_ok ps
  obtain ⟨ht1, ht2⟩ := prow_ok (ps.drop (i + 1))
  have hd : List.take (ps.length - (i + 1)) (List.drop (i + 1) (ps.map prow)) = (ps.drop (i + 1)).map prow := by
    rw [← List.map_drop, ← List.map_take, List.take_of_length_le (by simp)]
  have hl1 : (ps.drop (i + 1)).length = ps.length - (i + 1) := List.length_drop
  have hl2 : i + (ps.length - (i + 1)) = ps.length - 1 := by omega
  have hrow : List.take i (List.map prow ps) ++ (List.map prow (List.drop (i + 1) ps) ++ List.drop (ps.length - 1) (List.map prow ps)) = ((ps.take i ++ ps.drop (i + 1)) ++ ps.drop (ps.length - 1)).map prow := by
    simp [List.map_append, List.map_take, List.map_drop]
  obtain ⟨X, hX⟩ : ∃ X, (ps.take i ++ ps.drop (i + 1)) ++ ps.drop (ps.length - 1) = X := ⟨_, rfl⟩
  have hXl : X.length = ps.length := by rw [← hX]; simp; omega
  have hX2 : X.take (ps.length - 1) = ps.take i ++ ps.drop (i + 1) := by
    rw [← hX, List.take_append_of_le_length (by simp; omega), List.take_of_length_le (by simp; omega)]
  refine callT_ofL 33 [.tmp 6] Try.func18 rfl Try.ntmps18 rfl (Nat.le_of_ble_eq_true rfl) fun c hnt hc0 => ?_
  refine wps_seq fun K1 hK1 => ?_
  refine wps_region (by rw [hnt]; rfl) 0 ?_
  simp only [↓kOps_app, ↓evOps_nil, ↓evOps_cons, go_sem, Int.reduceAdd, Int.reduceBEq, Int.reduceEq, Int.reduceLE, Int.reduceLT, Int.reduceNe, Int.reduceSub, Int.reduceToNat, Nat.reduceAdd, Nat.reduceBEq, Nat.reduceEqDiff, Nat.reduceLT, Nat.reduceLeDiff, Nat.reduceMul, Nat.reduceSub, reduceCtorEq, reduceIte]
  repeat (refine And.intro ?_ ?_; · first | rfl | omega | assumption | (simp; done) | (simp; omega) | (intros; omega) | (intros; simp_all; done) | (intros; simp_all; omega) | (and_intros <;> first | rfl | omega | assumption | (simp; done)))
  refine hK1 _ _ ?_
  refine wps_seq fun K2 hK2 => ?_
  refine wps_region (by rw [hnt]; rfl) 0 ?_
  simp only [↓kOps_app, ↓evOps_nil, ↓evOps_cons, go_sem, Int.reduceAdd, Int.reduceBEq, Int.reduceEq, Int.reduceLE, Int.reduceLT, Int.reduceNe, Int.reduceSub, Int.reduceToNat, Nat.reduceAdd, Nat.reduceBEq, Nat.reduceEqDiff, Nat.reduceLT, Nat.reduceLeDiff, Nat.reduceMul, Nat.reduceSub, reduceCtorEq, reduceIte]
  repeat (refine And.intro ?_ ?_; · first | rfl | omega | assumption | (simp; done) | (simp; omega) | (intros; omega) | (intros; simp_all; done) | (intros; simp_all; omega) | (and_intros <;> first | rfl | omega | assumption | (simp; done)))
  refine hK2 _ _ ?_
  refine wps_seq fun K3 hK3 => ?_
  refine wps_seq fun K4 hK4 => ?_
  refine wps_region (by rw [hnt]; rfl) 0 ?_
  simp only [↓kOps_app, ↓evOps_nil, ↓evOps_cons, go_sem, Int.reduceAdd, Int.reduceBEq, Int.reduceEq, Int.reduceLE, Int.reduceLT, Int.reduceNe, Int.reduceSub, Int.reduceToNat, Nat.reduceAdd, Nat.reduceBEq, Nat.reduceEqDiff, Nat.reduceLT, Nat.reduceLeDiff, Nat.reduceMul, Nat.reduceSub, reduceCtorEq, reduceIte]
  repeat (refine And.intro ?_ ?_; · first | rfl | omega | assumption | (simp; done) | (simp; omega) | (intros; omega) | (intros; simp_all; done) | (intros; simp_all; omega) | (and_intros <;> first | rfl | omega | assumption | (simp; done)))
  refine hK4 _ _ ?_
  refine wps_cond (b := _) rfl (fun h1 => ?_) (fun h1 => ?_)
  · exact absurd h1 (by simp; omega)
  · refine wps_skip ?_
    refine hK3 _ _ ?_
    refine wps_seq fun K5 hK5 => ?_
    refine wps_region (by rw [hnt]; rfl) 0 ?_
    simp only [↓kOps_app, ↓evOps_nil, ↓evOps_cons, go_sem, Int.reduceAdd, Int.reduceBEq, Int.reduceEq, Int.reduceLE, Int.reduceLT, Int.reduceNe, Int.reduceSub, Int.reduceToNat, Nat.reduceAdd, Nat.reduceBEq, Nat.reduceEqDiff, Nat.reduceLT, Nat.reduceLeDiff, Nat.reduceMul, Nat.reduceSub, reduceCtorEq, reduceIte]
    repeat (refine And.intro ?_ ?_; · first | rfl | omega | assumption | (simp; done) | (simp; omega) | (intros; omega) | (intros; simp_all; done) | (intros; simp_all; omega) | (and_intros <;> first | rfl | omega | assumption | (simp; done)))
    refine hK5 _ _ ?_
    refine wps_seq fun K6 hK6 => ?_
    refine wps_drawL mixed (by rw [hnt]; rfl) (by kernel_rfl) 1 (ms := [0, 0, 3, 0, 0, 24, 63, 127]) (by kernel_rfl) ?_
    simp only [↓kOps_app, ↓evOps_nil, ↓evOps_cons, go_sem, Int.reduceAdd, Int.reduceBEq, Int.reduceEq, Int.reduceLE, Int.reduceLT, Int.reduceNe, Int.reduceSub, Int.reduceToNat, Nat.reduceAdd, Nat.reduceBEq, Nat.reduceEqDiff, Nat.reduceLT, Nat.reduceLeDiff, Nat.reduceMul, Nat.reduceSub, reduceCtorEq, reduceIte, hd, hl1, hl2]
    repeat (refine And.intro ?_ ?_; · first | rfl | omega | assumption | (simp; done) | (simp; omega) | (intros; omega) | (intros; simp_all; done) | (intros; simp_all; omega) | (and_intros <;> first | rfl | omega | assumption | (simp; done)))
    rw [hrow, hX]
    refine hK6 _ _ ?_
    refine wps_seq fun K7 hK7 => ?_
    refine wps_region (by rw [hnt]; rfl) 0 ?_
    simp only [↓kOps_app, ↓evOps_nil, ↓evOps_cons, go_sem, Int.reduceAdd, Int.reduceBEq, Int.reduceEq, Int.reduceLE, Int.reduceLT, Int.reduceNe, Int.reduceSub, Int.reduceToNat, Nat.reduceAdd, Nat.reduceBEq, Nat.reduceEqDiff, Nat.reduceLT, Nat.reduceLeDiff, Nat.reduceMul, Nat.reduceSub, reduceCtorEq, reduceIte, hXl]
    repeat (refine And.intro ?_ ?_; · first | rfl | omega | assumption | (simp; done) | (simp; omega) | (intros; omega) | (intros; simp_all; done) | (intros; simp_all; omega) | (and_intros <;> first | rfl | omega | assumption | (simp; done)))
    refine hK7 _ _ ?_
    refine wps_seq fun K8 hK8 => ?_
    refine wps_region (by rw [hnt]; rfl) 0 ?_
    simp only [↓kOps_app, ↓evOps_nil, ↓evOps_cons, go_sem, Int.reduceAdd, Int.reduceBEq, Int.reduceEq, Int.reduceLE, Int.reduceLT, Int.reduceNe, Int.reduceSub, Int.reduceToNat, Nat.reduceAdd, Nat.reduceBEq, Nat.reduceEqDiff, Nat.reduceLT, Nat.reduceLeDiff, Nat.reduceMul, Nat.reduceSub, reduceCtorEq, reduceIte]
    repeat (refine And.intro ?_ ?_; · first | rfl | omega | assumption | (simp; done) | (simp; omega) | (intros; omega) | (intros; simp_all; done) | (intros; simp_all; omega) | (and_intros <;> first | rfl | omega | assumption | (simp; done)))
    refine hK8 _ _ ?_
    refine wps_ent (e' := [(6, .u (.fz ((ps.take i ++ ps.drop (i + 1)).map prow) none))]) (σ' := [.dead]) ((entF 0 rfl (e' := [(6, .u (.fz ((ps.take i ++ ps.drop (i + 1)).map prow) none))]) ⟨?_, trivial⟩ rfl).trans (entL hc0 [some 0] rfl rfl (by simp only [go_sem, reduceIte, Nat.reduceEqDiff, Nat.reduceAdd, Nat.reduceLT]) (by simp only [go_sem, reduceIte, Nat.reduceEqDiff, Nat.reduceAdd, Nat.reduceLT]))) ?_
    · simp only [go_sem, reduceIte]
      rw [if_pos (by simp; omega), List.take_append_of_le_length (by simp; omega), List.take_of_length_le (by simp; omega), ← List.map_take, hX2, List.map_append]
    refine wps_ret ?_
    refine retL [some 0] (by simp only [resAll, resSV, ↓kOps_app, ↓evOps_nil, ↓evOps_cons, go_sem, Int.reduceAdd, Int.reduceBEq, Int.reduceEq, Int.reduceLE, Int.reduceLT, Int.reduceNe, Int.reduceSub, Int.reduceToNat, Nat.reduceAdd, Nat.reduceBEq, Nat.reduceEqDiff, Nat.reduceLT, Nat.reduceLeDiff, Nat.reduceMul, Nat.reduceSub, reduceCtorEq, reduceIte]; rfl) (by simp only [resObs, resOb, ↓kOps_app, ↓evOps_nil, ↓evOps_cons, go_sem, Int.reduceAdd, Int.reduceBEq, Int.reduceEq, Int.reduceLE, Int.reduceLT, Int.reduceNe, Int.reduceSub, Int.reduceToNat, Nat.reduceAdd, Nat.reduceBEq, Nat.reduceEqDiff, Nat.reduceLT, Nat.reduceLeDiff, Nat.reduceMul, Nat.reduceSub, reduceCtorEq, reduceIte]) rfl rfl ?_
    simp only [retSV, SV.mv, mvs, subL, List.map_nil, List.map_cons, SObj.mv, posOf, back, List.length_cons, List.length_nil, List.getElem?_cons_zero, List.getElem?_cons_succ, Option.map_some, Nat.reduceAdd, Nat.reduceLT, Nat.zero_add, Nat.lt_add_one, List.getD_cons_zero, List.getD_cons_succ, reduceIte, Nat.reduceEqDiff, Env.get, Env.put, and_true, true_and, implies_true, List.nil_append]
end Go.Proofs.Yteoihmgigmiajaa
