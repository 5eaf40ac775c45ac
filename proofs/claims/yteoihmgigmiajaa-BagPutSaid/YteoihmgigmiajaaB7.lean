import Derived.Test.YteoihmgigmiajaaB6
set_option linter.all false
set_option linter.unusedSimpArgs false
set_option linter.unusedVariables false
namespace Go.Proofs.Yteoihmgigmiajaa
open Go.Nm

set_option maxHeartbeats 4000000 in
set_option maxRecDepth 8000 in
theorem put_badroom (r : Int) (acts : List Ac) (h : r < 1 ∨ 256 < r) : CallT Try.prog 3 [.u (.i .i64 r), .u (.fz (acts.map arow) none)] [] fun x σ => x = .u (.b true) ∧ σ = [] := by
  have hn := new_bad r h
  refine callT_ofL 125 [.tmp 4] Try.func3 rfl Try.ntmps3 rfl (Nat.le_of_ble_eq_true rfl) fun c hnt hc0 => ?_
  refine wps_seq fun K1 hK1 => ?_
  refine wps_region (by rw [hnt]; rfl) 0 ?_
  simp only [↓kOps_app, ↓evOps_nil, ↓evOps_cons, go_sem, Int.reduceAdd, Int.reduceBEq, Int.reduceEq, Int.reduceLE, Int.reduceLT, Int.reduceNe, Int.reduceSub, Int.reduceToNat, Nat.reduceAdd, Nat.reduceBEq, Nat.reduceEqDiff, Nat.reduceLT, Nat.reduceLeDiff, Nat.reduceMul, Nat.reduceSub, reduceCtorEq, reduceIte]
  repeat (refine And.intro ?_ ?_; · first | rfl | omega | assumption | (simp; done) | (simp; omega) | (intros; omega) | (intros; simp_all; done) | (intros; simp_all; omega) | (and_intros <;> first | rfl | omega | assumption | (simp; done)))
  refine hK1 _ _ ?_
  refine wps_seq fun K2 hK2 => ?_
  refine wps_region (by rw [hnt]; rfl) 0 ?_
  simp only [↓kOps_app, ↓evOps_nil, ↓evOps_cons, go_sem, Int.reduceAdd, Int.reduceBEq, Int.reduceEq, Int.reduceLE, Int.reduceLT, Int.reduceNe, Int.reduceSub, Int.reduceToNat, Nat.reduceAdd, Nat.reduceBEq, Nat.reduceEqDiff, Nat.reduceLT, Nat.reduceLeDiff, Nat.reduceMul, Nat.reduceSub, reduceCtorEq, reduceIte]
  repeat (refine And.intro ?_ ?_; · first | rfl | omega | assumption | (simp; done) | (simp; omega) | (intros; omega) | (intros; simp_all; done) | (intros; simp_all; omega) | (and_intros <;> first | rfl | omega | assumption | (simp; done)))
  refine callT_at [] [] hn rfl rfl trivial (by simp only [go_sem, reduceIte, Nat.reduceEqDiff, Nat.reduceAdd, Nat.reduceLT]) (by simp only [go_sem, reduceIte, Nat.reduceEqDiff, Nat.reduceAdd, Nat.reduceLT]) rfl (fun N => by (try simp only [go_sem, reduceIte, Nat.reduceEqDiff, Nat.reduceAdd, Nat.reduceLT]); try rfl) (fun N => by (try simp only [go_sem, reduceIte, Nat.reduceEqDiff, Nat.reduceAdd, Nat.reduceLT]); try rfl) ?_
  simp only [↓kOps_app, ↓evOps_nil, ↓evOps_cons, go_sem, Int.reduceAdd, Int.reduceBEq, Int.reduceEq, Int.reduceLE, Int.reduceLT, Int.reduceNe, Int.reduceSub, Int.reduceToNat, Nat.reduceAdd, Nat.reduceBEq, Nat.reduceEqDiff, Nat.reduceLT, Nat.reduceLeDiff, Nat.reduceMul, Nat.reduceSub, reduceCtorEq, reduceIte]
  repeat (refine And.intro ?_ ?_; · first | rfl | omega | assumption | (simp; done) | (simp; omega) | (intros; omega) | (intros; simp_all; done) | (intros; simp_all; omega) | (and_intros <;> first | rfl | omega | assumption | (simp; done)))
  refine hK2 _ _ ?_
  refine wps_seq fun K3 hK3 => ?_
  refine wps_seq fun K4 hK4 => ?_
  refine wps_region (by rw [hnt]; rfl) 0 ?_
  simp only [↓kOps_app, ↓evOps_nil, ↓evOps_cons, go_sem, Int.reduceAdd, Int.reduceBEq, Int.reduceEq, Int.reduceLE, Int.reduceLT, Int.reduceNe, Int.reduceSub, Int.reduceToNat, Nat.reduceAdd, Nat.reduceBEq, Nat.reduceEqDiff, Nat.reduceLT, Nat.reduceLeDiff, Nat.reduceMul, Nat.reduceSub, reduceCtorEq, reduceIte]
  repeat (refine And.intro ?_ ?_; · first | rfl | omega | assumption | (simp; done) | (simp; omega) | (intros; omega) | (intros; simp_all; done) | (intros; simp_all; omega) | (and_intros <;> first | rfl | omega | assumption | (simp; done)))
  refine callT_new awake_ok (by simp only [go_sem, reduceIte, Nat.reduceEqDiff, Nat.reduceAdd, Nat.reduceLT]) ?_
  simp only [retSV, SV.mv, mvs, subL, List.map_nil, List.map_cons, SObj.mv, posOf, back, List.length_cons, List.length_nil, List.getElem?_cons_zero, List.getElem?_cons_succ, Option.map_some, Nat.reduceAdd, Nat.reduceLT, Nat.zero_add, Nat.lt_add_one, List.getD_cons_zero, List.getD_cons_succ, reduceIte, Nat.reduceEqDiff, Env.get, Env.put, and_true, true_and, implies_true]
  simp only [↓kOps_app, ↓evOps_nil, ↓evOps_cons, go_sem, Int.reduceAdd, Int.reduceBEq, Int.reduceEq, Int.reduceLE, Int.reduceLT, Int.reduceNe, Int.reduceSub, Int.reduceToNat, Nat.reduceAdd, Nat.reduceBEq, Nat.reduceEqDiff, Nat.reduceLT, Nat.reduceLeDiff, Nat.reduceMul, Nat.reduceSub, reduceCtorEq, reduceIte]
  repeat (refine And.intro ?_ ?_; · first | rfl | omega | assumption | (simp; done) | (simp; omega) | (intros; omega) | (intros; simp_all; done) | (intros; simp_all; omega) | (and_intros <;> first | rfl | omega | assumption | (simp; done)))
  refine hK4 _ _ ?_
  refine wps_cond (b := _) rfl (fun h1 => ?_) (fun h1 => ?_)
  · refine wps_seq fun K5 hK5 => ?_
    refine wps_region (by rw [hnt]; rfl) 0 ?_
    simp only [↓kOps_app, ↓evOps_nil, ↓evOps_cons, go_sem, Int.reduceAdd, Int.reduceBEq, Int.reduceEq, Int.reduceLE, Int.reduceLT, Int.reduceNe, Int.reduceSub, Int.reduceToNat, Nat.reduceAdd, Nat.reduceBEq, Nat.reduceEqDiff, Nat.reduceLT, Nat.reduceLeDiff, Nat.reduceMul, Nat.reduceSub, reduceCtorEq, reduceIte]
    repeat (refine And.intro ?_ ?_; · first | rfl | omega | assumption | (simp; done) | (simp; omega) | (intros; omega) | (intros; simp_all; done) | (intros; simp_all; omega) | (and_intros <;> first | rfl | omega | assumption | (simp; done)))
    refine callT_new awake_ok (by simp only [go_sem, reduceIte, Nat.reduceEqDiff, Nat.reduceAdd, Nat.reduceLT]) ?_
    simp only [retSV, SV.mv, mvs, subL, List.map_nil, List.map_cons, SObj.mv, posOf, back, List.length_cons, List.length_nil, List.getElem?_cons_zero, List.getElem?_cons_succ, Option.map_some, Nat.reduceAdd, Nat.reduceLT, Nat.zero_add, Nat.lt_add_one, List.getD_cons_zero, List.getD_cons_succ, reduceIte, Nat.reduceEqDiff, Env.get, Env.put, and_true, true_and, implies_true]
    simp only [↓kOps_app, ↓evOps_nil, ↓evOps_cons, go_sem, Int.reduceAdd, Int.reduceBEq, Int.reduceEq, Int.reduceLE, Int.reduceLT, Int.reduceNe, Int.reduceSub, Int.reduceToNat, Nat.reduceAdd, Nat.reduceBEq, Nat.reduceEqDiff, Nat.reduceLT, Nat.reduceLeDiff, Nat.reduceMul, Nat.reduceSub, reduceCtorEq, reduceIte]
    repeat (refine And.intro ?_ ?_; · first | rfl | omega | assumption | (simp; done) | (simp; omega) | (intros; omega) | (intros; simp_all; done) | (intros; simp_all; omega) | (and_intros <;> first | rfl | omega | assumption | (simp; done)))
    refine hK5 _ _ ?_
    refine wps_ret ?_
    refine retL [] rfl ⟨trivial, trivial⟩ rfl rfl ?_
    simp only [retSV, SV.mv, mvs, subL, List.map_nil, List.map_cons, SObj.mv, posOf, back, List.length_cons, List.length_nil, List.getElem?_cons_zero, List.getElem?_cons_succ, Option.map_some, Nat.reduceAdd, Nat.reduceLT, Nat.zero_add, Nat.lt_add_one, List.getD_cons_zero, List.getD_cons_succ, reduceIte, Nat.reduceEqDiff, Env.get, Env.put, and_true, true_and, implies_true]
  · exact absurd h1 (by simp)

set_option maxHeartbeats 8000000 in
set_option maxRecDepth 8000 in
theorem put_law (R : Nat) (acts : List Ac) (hR : 1 ≤ R ∧ R ≤ 256) : CallT Try.prog 3 [.u (.i .i64 (R : Int)), .u (.fz (acts.map arow) none)] [] fun r σ => r = .u (.b true) ∧ σ = [] := by
  have hn := new_ok R hR
  simp only [bagC, List.nil_append, List.map_nil] at hn
  have h0 : PutI [] [] 0 := ⟨fun k => by simp [kcnt], by simp⟩
  refine callT_ofL 125 [.tmp 4] Try.func3 rfl Try.ntmps3 rfl (Nat.le_of_ble_eq_true rfl) fun c hnt hc0 => ?_
  refine wps_seq fun K1 hK1 => ?_
  refine wps_region (by rw [hnt]; rfl) 0 ?_
  simp only [↓kOps_app, ↓evOps_nil, ↓evOps_cons, go_sem, Int.reduceAdd, Int.reduceBEq, Int.reduceEq, Int.reduceLE, Int.reduceLT, Int.reduceNe, Int.reduceSub, Int.reduceToNat, Nat.reduceAdd, Nat.reduceBEq, Nat.reduceEqDiff, Nat.reduceLT, Nat.reduceLeDiff, Nat.reduceMul, Nat.reduceSub, reduceCtorEq, reduceIte]
  repeat (refine And.intro ?_ ?_; · first | rfl | omega | assumption | (simp; done) | (simp; omega) | (intros; omega) | (intros; simp_all; done) | (intros; simp_all; omega) | (and_intros <;> first | rfl | omega | assumption | (simp; done)))
  refine hK1 _ _ ?_
  refine wps_seq fun K2 hK2 => ?_
  refine wps_region (by rw [hnt]; rfl) 0 ?_
  simp only [↓kOps_app, ↓evOps_nil, ↓evOps_cons, go_sem, Int.reduceAdd, Int.reduceBEq, Int.reduceEq, Int.reduceLE, Int.reduceLT, Int.reduceNe, Int.reduceSub, Int.reduceToNat, Nat.reduceAdd, Nat.reduceBEq, Nat.reduceEqDiff, Nat.reduceLT, Nat.reduceLeDiff, Nat.reduceMul, Nat.reduceSub, reduceCtorEq, reduceIte]
  repeat (refine And.intro ?_ ?_; · first | rfl | omega | assumption | (simp; done) | (simp; omega) | (intros; omega) | (intros; simp_all; done) | (intros; simp_all; omega) | (and_intros <;> first | rfl | omega | assumption | (simp; done)))
  refine callT_new hn (by simp only [go_sem, reduceIte, Nat.reduceEqDiff, Nat.reduceAdd, Nat.reduceLT]) ?_
  simp only [retSV, SV.mv, mvs, subL, List.map_nil, List.map_cons, SObj.mv, posOf, back, List.length_cons, List.length_nil, List.getElem?_cons_zero, List.getElem?_cons_succ, Option.map_some, Nat.reduceAdd, Nat.reduceLT, Nat.zero_add, Nat.lt_add_one, List.getD_cons_zero, List.getD_cons_succ, reduceIte, Nat.reduceEqDiff, Env.get, Env.put, and_true, true_and, implies_true, Nat.not_lt_zero, Nat.sub_zero]
  simp only [↓kOps_app, ↓evOps_nil, ↓evOps_cons, go_sem, Int.reduceAdd, Int.reduceBEq, Int.reduceEq, Int.reduceLE, Int.reduceLT, Int.reduceNe, Int.reduceSub, Int.reduceToNat, Nat.reduceAdd, Nat.reduceBEq, Nat.reduceEqDiff, Nat.reduceLT, Nat.reduceLeDiff, Nat.reduceMul, Nat.reduceSub, reduceCtorEq, reduceIte]
  repeat (refine And.intro ?_ ?_; · first | rfl | omega | assumption | (simp; done) | (simp; omega) | (intros; omega) | (intros; simp_all; done) | (intros; simp_all; omega) | (and_intros <;> first | rfl | omega | assumption | (simp; done)))
  refine hK2 _ _ ?_
  refine wps_seq fun K3 hK3 => ?_
  refine wps_seq fun K4 hK4 => ?_
  refine wps_region (by rw [hnt]; rfl) 0 ?_
  simp only [↓kOps_app, ↓evOps_nil, ↓evOps_cons, go_sem, Int.reduceAdd, Int.reduceBEq, Int.reduceEq, Int.reduceLE, Int.reduceLT, Int.reduceNe, Int.reduceSub, Int.reduceToNat, Nat.reduceAdd, Nat.reduceBEq, Nat.reduceEqDiff, Nat.reduceLT, Nat.reduceLeDiff, Nat.reduceMul, Nat.reduceSub, reduceCtorEq, reduceIte]
  repeat (refine And.intro ?_ ?_; · first | rfl | omega | assumption | (simp; done) | (simp; omega) | (intros; omega) | (intros; simp_all; done) | (intros; simp_all; omega) | (and_intros <;> first | rfl | omega | assumption | (simp; done)))
  refine callT_new awake_ok (by simp only [go_sem, reduceIte, Nat.reduceEqDiff, Nat.reduceAdd, Nat.reduceLT]) ?_
  simp only [retSV, SV.mv, mvs, subL, List.map_nil, List.map_cons, SObj.mv, posOf, back, List.length_cons, List.length_nil, List.getElem?_cons_zero, List.getElem?_cons_succ, Option.map_some, Nat.reduceAdd, Nat.reduceLT, Nat.zero_add, Nat.lt_add_one, List.getD_cons_zero, List.getD_cons_succ, reduceIte, Nat.reduceEqDiff, Env.get, Env.put, and_true, true_and, implies_true]
  simp only [↓kOps_app, ↓evOps_nil, ↓evOps_cons, go_sem, Int.reduceAdd, Int.reduceBEq, Int.reduceEq, Int.reduceLE, Int.reduceLT, Int.reduceNe, Int.reduceSub, Int.reduceToNat, Nat.reduceAdd, Nat.reduceBEq, Nat.reduceEqDiff, Nat.reduceLT, Nat.reduceLeDiff, Nat.reduceMul, Nat.reduceSub, reduceCtorEq, reduceIte]
  repeat (refine And.intro ?_ ?_; · first | rfl | omega | assumption | (simp; done) | (simp; omega) | (intros; omega) | (intros; simp_all; done) | (intros; simp_all; omega) | (and_intros <;> first | rfl | omega | assumption | (simp; done)))
  refine hK4 _ _ ?_
  refine wps_cond (b := _) rfl (fun h1 => ?_) (fun h1 => ?_)
  · exact absurd h1 (by simp)
  · refine wps_skip ?_
    refine hK3 _ _ ?_
    refine wps_seq fun K5 hK5 => ?_
    refine wps_keep [0, 1, 5] (by simp only [keep_cons, keep_nil, keep_done, List.contains_lit_cons, List.contains_lit_nil, List.erase_lit_cons, List.erase_lit_nil, reduceIte, Nat.reduceEqDiff, Bool.false_eq_true]; rfl) ?_
    refine wps_region (by rw [hnt]; rfl) 1 ?_
    simp only [↓kOps_app, ↓evOps_nil, ↓evOps_cons, go_sem, Int.reduceAdd, Int.reduceBEq, Int.reduceEq, Int.reduceLE, Int.reduceLT, Int.reduceNe, Int.reduceSub, Int.reduceToNat, Nat.reduceAdd, Nat.reduceBEq, Nat.reduceEqDiff, Nat.reduceLT, Nat.reduceLeDiff, Nat.reduceMul, Nat.reduceSub, reduceCtorEq, reduceIte]
    repeat (refine And.intro ?_ ?_; · first | rfl | omega | assumption | (simp; done) | (simp; omega) | (intros; omega) | (intros; simp_all; done) | (intros; simp_all; omega) | (and_intros <;> first | rfl | omega | assumption | (simp; done)))
    refine hK5 _ _ ?_
    refine wps_seq fun K6 hK6 => ?_
    refine wps_seq fun K7 hK7 => ?_
    refine wps_region (by rw [hnt]; rfl) 0 ?_
    simp only [↓kOps_app, ↓evOps_nil, ↓evOps_cons, go_sem, Int.reduceAdd, Int.reduceBEq, Int.reduceEq, Int.reduceLE, Int.reduceLT, Int.reduceNe, Int.reduceSub, Int.reduceToNat, Nat.reduceAdd, Nat.reduceBEq, Nat.reduceEqDiff, Nat.reduceLT, Nat.reduceLeDiff, Nat.reduceMul, Nat.reduceSub, reduceCtorEq, reduceIte]
    repeat (refine And.intro ?_ ?_; · first | rfl | omega | assumption | (simp; done) | (simp; omega) | (intros; omega) | (intros; simp_all; done) | (intros; simp_all; omega) | (and_intros <;> first | rfl | omega | assumption | (simp; done)))
    refine hK7 _ _ ?_
    refine wps_blk fun K8 hK8 => ?_
    refine wps_loop (fun k e σ => ∃ (i : Nat) (ps : List Pk) (q : Option Nat) (ks : List (List UInt8 × Int)), k = acts.length - i ∧ i ≤ acts.length ∧ i ≤ 60 ∧ ps.length ≤ R ∧ PutI ps ks (20 * i) ∧
        e = [(0, .u (.i .i64 (R : Int))), (1, .u (.fz (acts.map arow) none)), (5, .p 0 0), (7, .h 1), (8, .u (.i .i64 i))] ∧ σ = [.cells [.u (.i .i64 (R : Int)), .u (.fz (ps.map prow) q)], .map (ks.map kent)])
      (e0 := [(0, .u (.i .i64 (R : Int))), (1, .u (.fz (acts.map arow) none)), (5, .p 0 0), (7, .h 1), (8, .u (.i .i64 0))]) (σ0 := [.cells [.u (.i .i64 (R : Int)), .u (.fz [] (some 0))], .map []])
      (entL hc0 [some 0, some 1] rfl rfl (by simp only [go_sem, reduceIte, Nat.reduceEqDiff, Nat.reduceAdd, Nat.reduceLT]) (by simp only [retSV, SV.mv, mvs, subL, List.map_nil, List.map_cons, SObj.mv, posOf, back, List.length_cons, List.length_nil, List.getElem?_cons_zero, List.getElem?_cons_succ, Option.map_some, Nat.reduceAdd, Nat.reduceLT, Nat.zero_add, Nat.lt_add_one, List.getD_cons_zero, List.getD_cons_succ, reduceIte, Nat.reduceEqDiff, Env.get, Env.put, and_true, true_and, implies_true])) ⟨0, [], some 0, [], rfl, Nat.zero_le _, by omega, by simp, h0, rfl, rfl⟩ fun KL k e1 σ1 hI hKL => ?_
    obtain ⟨i, ps, q, ks, rfl, hi, hi60, hl, hI, rfl, rfl⟩ := hI
    refine wps_seq fun K9 hK9 => ?_
    refine wps_seq fun K10 hK10 => ?_
    refine wps_region (by rw [hnt]; rfl) 0 ?_
    simp only [↓kOps_app, ↓evOps_nil, ↓evOps_cons, go_sem, Int.reduceAdd, Int.reduceBEq, Int.reduceEq, Int.reduceLE, Int.reduceLT, Int.reduceNe, Int.reduceSub, Int.reduceToNat, Nat.reduceAdd, Nat.reduceBEq, Nat.reduceEqDiff, Nat.reduceLT, Nat.reduceLeDiff, Nat.reduceMul, Nat.reduceSub, reduceCtorEq, reduceIte]
    repeat (refine And.intro ?_ ?_; · first | rfl | omega | assumption | (simp; done) | (simp; omega) | (intros; omega) | (intros; simp_all; done) | (intros; simp_all; omega) | (and_intros <;> first | rfl | omega | assumption | (simp; done)))
    refine hK10 _ _ ?_
    refine wps_cond (b := _) rfl (fun h2 => ?_) (fun h2 => ?_)
    · simp at h2
      have hel := arow_at h2.1
      have hw1 : IntKind.i64.wrap ((i : Int) + 1) = ((i + 1 : Nat) : Int) := by rw [wrap64 (by omega) (by omega)]; omega
      have hry : roomy ps := by unfold roomy; omega
      refine wps_skip ?_
      refine hK9 _ _ ?_
      refine wps_seq fun K11 hK11 => ?_
      refine wps_blk fun K12 hK12 => ?_
      refine wps_seq fun K13 hK13 => ?_
      refine wps_region (by rw [hnt]; rfl) 1 ?_
      simp only [↓kOps_app, ↓evOps_nil, ↓evOps_cons, go_sem, Int.reduceAdd, Int.reduceBEq, Int.reduceEq, Int.reduceLE, Int.reduceLT, Int.reduceNe, Int.reduceSub, Int.reduceToNat, Nat.reduceAdd, Nat.reduceBEq, Nat.reduceEqDiff, Nat.reduceLT, Nat.reduceLeDiff, Nat.reduceMul, Nat.reduceSub, reduceCtorEq, reduceIte, hel]
      repeat (refine And.intro ?_ ?_; · first | rfl | omega | assumption | (simp; done) | (simp; omega) | (intros; omega) | (intros; simp_all; done) | (intros; simp_all; omega) | (and_intros <;> first | rfl | omega | assumption | (simp; done)))
      refine hK13 _ _ ?_
      refine wps_seq fun K14 hK14 => ?_
      have hJ3 : ∀ (ps' : List Pk) (q' : Option Nat) (ks' : List (List UInt8 × Int)), ps'.length ≤ R → PutI ps' ks' (20 * (i + 1)) → ∀ e' σ', Ent c e' σ' [(0, .u (.i .i64 (R : Int))), (1, .u (.fz (acts.map arow) none)), (5, .p 0 0), (7, .h 1), (8, .u (.i .i64 i))] [.cells [.u (.i .i64 (R : Int)), .u (.fz (ps'.map prow) q')], .map (ks'.map kent)] → K14 e' σ' := by
        intro ps' q' ks' hl' hI' e' σ' hE
        refine hK14 _ _ (wps_ent hE ?_)
        have hln := len_ok R ps' q'
        have hlf := left_ok R ps' q' hR.2 hl'
        have hlt : decide ((R : Int) < (ps'.length : Int)) = false := by simp; omega
        have hws : IntKind.i64.wrap ((ps'.length : Int) + ((R - ps'.length : Nat) : Int)) = (R : Int) := by rw [wrap64 (by omega) (by omega)]; omega
        simp only [bagC] at hln hlf
        refine wps_seq fun K15 hK15 => ?_
        refine wps_region (by rw [hnt]; rfl) 0 ?_
        simp only [↓kOps_app, ↓evOps_nil, ↓evOps_cons, go_sem, Int.reduceAdd, Int.reduceBEq, Int.reduceEq, Int.reduceLE, Int.reduceLT, Int.reduceNe, Int.reduceSub, Int.reduceToNat, Nat.reduceAdd, Nat.reduceBEq, Nat.reduceEqDiff, Nat.reduceLT, Nat.reduceLeDiff, Nat.reduceMul, Nat.reduceSub, reduceCtorEq, reduceIte, hlt, hws]
        repeat (refine And.intro ?_ ?_; · first | rfl | omega | assumption | (simp; done) | (simp; omega) | (intros; omega) | (intros; simp_all; done) | (intros; simp_all; omega) | (and_intros <;> first | rfl | omega | assumption | (simp; done)))
        refine callT_at [0] [_] hln rfl rfl ⟨rfl, trivial⟩ (by simp only [go_sem, reduceIte, Nat.reduceEqDiff, Nat.reduceAdd, Nat.reduceLT]) (by simp only [go_sem, reduceIte, Nat.reduceEqDiff, Nat.reduceAdd, Nat.reduceLT]) rfl (fun N => by (try simp only [go_sem, reduceIte, Nat.reduceEqDiff, Nat.reduceAdd, Nat.reduceLT]); try rfl) (fun N => by (try simp only [go_sem, reduceIte, Nat.reduceEqDiff, Nat.reduceAdd, Nat.reduceLT]); try rfl) ?_
        simp only [↓kOps_app, ↓evOps_nil, ↓evOps_cons, go_sem, Int.reduceAdd, Int.reduceBEq, Int.reduceEq, Int.reduceLE, Int.reduceLT, Int.reduceNe, Int.reduceSub, Int.reduceToNat, Nat.reduceAdd, Nat.reduceBEq, Nat.reduceEqDiff, Nat.reduceLT, Nat.reduceLeDiff, Nat.reduceMul, Nat.reduceSub, reduceCtorEq, reduceIte, hlt, hws]
        repeat (refine And.intro ?_ ?_; · first | rfl | omega | assumption | (simp; done) | (simp; omega) | (intros; omega) | (intros; simp_all; done) | (intros; simp_all; omega) | (and_intros <;> first | rfl | omega | assumption | (simp; done)))
        refine callT_at [0] [_] hln rfl rfl ⟨rfl, trivial⟩ (by simp only [go_sem, reduceIte, Nat.reduceEqDiff, Nat.reduceAdd, Nat.reduceLT]) (by simp only [go_sem, reduceIte, Nat.reduceEqDiff, Nat.reduceAdd, Nat.reduceLT]) rfl (fun N => by (try simp only [go_sem, reduceIte, Nat.reduceEqDiff, Nat.reduceAdd, Nat.reduceLT]); try rfl) (fun N => by (try simp only [go_sem, reduceIte, Nat.reduceEqDiff, Nat.reduceAdd, Nat.reduceLT]); try rfl) ?_
        simp only [↓kOps_app, ↓evOps_nil, ↓evOps_cons, go_sem, Int.reduceAdd, Int.reduceBEq, Int.reduceEq, Int.reduceLE, Int.reduceLT, Int.reduceNe, Int.reduceSub, Int.reduceToNat, Nat.reduceAdd, Nat.reduceBEq, Nat.reduceEqDiff, Nat.reduceLT, Nat.reduceLeDiff, Nat.reduceMul, Nat.reduceSub, reduceCtorEq, reduceIte, hlt, hws]
        repeat (refine And.intro ?_ ?_; · first | rfl | omega | assumption | (simp; done) | (simp; omega) | (intros; omega) | (intros; simp_all; done) | (intros; simp_all; omega) | (and_intros <;> first | rfl | omega | assumption | (simp; done)))
        refine callT_at [0] [_] hlf rfl rfl ⟨rfl, trivial⟩ (by simp only [go_sem, reduceIte, Nat.reduceEqDiff, Nat.reduceAdd, Nat.reduceLT]) (by simp only [go_sem, reduceIte, Nat.reduceEqDiff, Nat.reduceAdd, Nat.reduceLT]) rfl (fun N => by (try simp only [go_sem, reduceIte, Nat.reduceEqDiff, Nat.reduceAdd, Nat.reduceLT]); try rfl) (fun N => by (try simp only [go_sem, reduceIte, Nat.reduceEqDiff, Nat.reduceAdd, Nat.reduceLT]); try rfl) ?_
        simp only [↓kOps_app, ↓evOps_nil, ↓evOps_cons, go_sem, Int.reduceAdd, Int.reduceBEq, Int.reduceEq, Int.reduceLE, Int.reduceLT, Int.reduceNe, Int.reduceSub, Int.reduceToNat, Nat.reduceAdd, Nat.reduceBEq, Nat.reduceEqDiff, Nat.reduceLT, Nat.reduceLeDiff, Nat.reduceMul, Nat.reduceSub, reduceCtorEq, reduceIte, hlt, hws]
        repeat (refine And.intro ?_ ?_; · first | rfl | omega | assumption | (simp; done) | (simp; omega) | (intros; omega) | (intros; simp_all; done) | (intros; simp_all; omega) | (and_intros <;> first | rfl | omega | assumption | (simp; done)))
        refine hK15 _ _ ?_
        refine wps_cond (b := _) rfl (fun h9 => ?_) (fun h9 => ?_)
        · exact absurd h9 (by simp)
        · refine wps_skip ?_
          refine hK12 _ _ ?_
          refine hK11 _ _ ?_
          refine wps_region (by rw [hnt]; rfl) 0 ?_
          simp only [↓kOps_app, ↓evOps_nil, ↓evOps_cons, go_sem, Int.reduceAdd, Int.reduceBEq, Int.reduceEq, Int.reduceLE, Int.reduceLT, Int.reduceNe, Int.reduceSub, Int.reduceToNat, Nat.reduceAdd, Nat.reduceBEq, Nat.reduceEqDiff, Nat.reduceLT, Nat.reduceLeDiff, Nat.reduceMul, Nat.reduceSub, reduceCtorEq, reduceIte, hw1]
          repeat (refine And.intro ?_ ?_; · first | rfl | omega | assumption | (simp; done) | (simp; omega) | (intros; omega) | (intros; simp_all; done) | (intros; simp_all; omega) | (and_intros <;> first | rfl | omega | assumption | (simp; done)))
          exact hKL _ _ (acts.length - (i + 1)) _ _ (entL hc0 [some 0, some 1] rfl rfl (by simp only [go_sem, reduceIte, Nat.reduceEqDiff, Nat.reduceAdd, Nat.reduceLT]) (by simp only [go_sem, reduceIte, Nat.reduceEqDiff, Nat.reduceAdd, Nat.reduceLT])) ⟨i + 1, ps', q', ks', rfl, by omega, by omega, hl', hI', rfl, rfl⟩ (by omega)
      refine wps_seq fun K16 hK16 => ?_
      refine wps_region (by rw [hnt]; rfl) 0 ?_
      simp only [↓kOps_app, ↓evOps_nil, ↓evOps_cons, go_sem, Int.reduceAdd, Int.reduceBEq, Int.reduceEq, Int.reduceLE, Int.reduceLT, Int.reduceNe, Int.reduceSub, Int.reduceToNat, Nat.reduceAdd, Nat.reduceBEq, Nat.reduceEqDiff, Nat.reduceLT, Nat.reduceLeDiff, Nat.reduceMul, Nat.reduceSub, reduceCtorEq, reduceIte]
      repeat (refine And.intro ?_ ?_; · first | rfl | omega | assumption | (simp; done) | (simp; omega) | (intros; omega) | (intros; simp_all; done) | (intros; simp_all; omega) | (and_intros <;> first | rfl | omega | assumption | (simp; done)))
      refine hK16 _ _ ?_
      refine wps_blk fun K17 hK17 => ?_
      refine wps_seq fun K18 hK18 => ?_
      refine wps_keep [0, 1, 5, 7, 8, 9, 49] (by simp only [keep_cons, keep_nil, keep_done, List.contains_lit_cons, List.contains_lit_nil, List.erase_lit_cons, List.erase_lit_nil, reduceIte, Nat.reduceEqDiff, Bool.false_eq_true]; rfl) ?_
      refine wps_region (by rw [hnt]; rfl) 0 ?_
      simp only [↓kOps_app, ↓evOps_nil, ↓evOps_cons, go_sem, Int.reduceAdd, Int.reduceBEq, Int.reduceEq, Int.reduceLE, Int.reduceLT, Int.reduceNe, Int.reduceSub, Int.reduceToNat, Nat.reduceAdd, Nat.reduceBEq, Nat.reduceEqDiff, Nat.reduceLT, Nat.reduceLeDiff, Nat.reduceMul, Nat.reduceSub, reduceCtorEq, reduceIte]
      repeat (refine And.intro ?_ ?_; · first | rfl | omega | assumption | (simp; done) | (simp; omega) | (intros; omega) | (intros; simp_all; done) | (intros; simp_all; omega) | (and_intros <;> first | rfl | omega | assumption | (simp; done)))
      refine hK18 _ _ ?_
      refine wps_cond (b := _) rfl (fun h3 => ?_) (fun h3 => ?_)
      · refine wps_seq fun K19 hK19 => ?_
        refine wps_region (by rw [hnt]; rfl) 0 ?_
        simp only [↓kOps_app, ↓evOps_nil, ↓evOps_cons, go_sem, Int.reduceAdd, Int.reduceBEq, Int.reduceEq, Int.reduceLE, Int.reduceLT, Int.reduceNe, Int.reduceSub, Int.reduceToNat, Nat.reduceAdd, Nat.reduceBEq, Nat.reduceEqDiff, Nat.reduceLT, Nat.reduceLeDiff, Nat.reduceMul, Nat.reduceSub, reduceCtorEq, reduceIte]
        repeat (refine And.intro ?_ ?_; · first | rfl | omega | assumption | (simp; done) | (simp; omega) | (intros; omega) | (intros; simp_all; done) | (intros; simp_all; omega) | (and_intros <;> first | rfl | omega | assumption | (simp; done)))
        refine hK19 _ _ ?_
        refine wps_blk fun K20 hK20 => ?_
        refine wps_loop (fun k e σ => ∃ (kk : Nat) (ps' : List Pk) (q' : Option Nat) (ks' : List (List UInt8 × Int)), k = (acat acts i).ls.length - kk ∧ kk ≤ (acat acts i).ls.length ∧ kk ≤ 20 ∧ ps'.length ≤ R ∧ PutI ps' ks' (20 * i + kk) ∧
            e = [(0, .u (.i .i64 (R : Int))), (1, .u (.fz (acts.map arow) none)), (5, .p 0 0), (7, .h 1), (8, .u (.i .i64 i)), (9, .p 2 0), (10, .u (.i .i64 kk))] ∧ σ = [.cells [.u (.i .i64 (R : Int)), .u (.fz (ps'.map prow) q')], .map (ks'.map kent), .cells [.u (.i .i64 (acat acts i).k), .u (.i .i64 (acat acts i).at_), .u (.i .i64 (acat acts i).fr), .u (.i .i64 (acat acts i).to), .u (.fz ((acat acts i).ls.map prow) none)]])
          (e0 := [(0, .u (.i .i64 (R : Int))), (1, .u (.fz (acts.map arow) none)), (5, .p 0 0), (7, .h 1), (8, .u (.i .i64 i)), (9, .p 2 0), (10, .u (.i .i64 0))]) (σ0 := [.cells [.u (.i .i64 (R : Int)), .u (.fz (ps.map prow) q)], .map (ks.map kent), .cells [.u (.i .i64 (acat acts i).k), .u (.i .i64 (acat acts i).at_), .u (.i .i64 (acat acts i).fr), .u (.i .i64 (acat acts i).to), .u (.fz ((acat acts i).ls.map prow) none)]])
          (entL hc0 [some 0, some 1, some 2] rfl rfl (by simp only [go_sem, reduceIte, Nat.reduceEqDiff, Nat.reduceAdd, Nat.reduceLT]) (by simp only [retSV, SV.mv, mvs, subL, List.map_nil, List.map_cons, SObj.mv, posOf, back, List.length_cons, List.length_nil, List.getElem?_cons_zero, List.getElem?_cons_succ, Option.map_some, Nat.reduceAdd, Nat.reduceLT, Nat.zero_add, Nat.lt_add_one, List.getD_cons_zero, List.getD_cons_succ, reduceIte, Nat.reduceEqDiff, Env.get, Env.put, and_true, true_and, implies_true])) ⟨0, ps, q, ks, rfl, Nat.zero_le _, by omega, hl, hI, rfl, rfl⟩ fun KM k2 e2 σ2 hI2 hKM => ?_
        obtain ⟨kk, ps', q', ks', rfl, hkk, hkk20, hl', hI', rfl, rfl⟩ := hI2
        refine wps_seq fun K21 hK21 => ?_
        refine wps_seq fun K22 hK22 => ?_
        refine wps_region (by rw [hnt]; rfl) 0 ?_
        simp only [↓kOps_app, ↓evOps_nil, ↓evOps_cons, go_sem, Int.reduceAdd, Int.reduceBEq, Int.reduceEq, Int.reduceLE, Int.reduceLT, Int.reduceNe, Int.reduceSub, Int.reduceToNat, Nat.reduceAdd, Nat.reduceBEq, Nat.reduceEqDiff, Nat.reduceLT, Nat.reduceLeDiff, Nat.reduceMul, Nat.reduceSub, reduceCtorEq, reduceIte]
        repeat (refine And.intro ?_ ?_; · first | rfl | omega | assumption | (simp; done) | (simp; omega) | (intros; omega) | (intros; simp_all; done) | (intros; simp_all; omega) | (and_intros <;> first | rfl | omega | assumption | (simp; done)))
        refine hK22 _ _ ?_
        refine wps_cond (b := _) rfl (fun h4 => ?_) (fun h4 => ?_)
        · simp at h4
          have hel2 := prow_at h4.1
          have hko := kkeys (pat (acat acts i).ls kk).2.2 ks'
          have hwk : IntKind.i64.wrap ((kk : Int) + 1) = ((kk + 1 : Nat) : Int) := by rw [wrap64 (by omega) (by omega)]; omega
          have hwc : IntKind.i64.wrap (kcnt ks' (pat (acat acts i).ls kk).2.2 + 1) = kcnt ks' (pat (acat acts i).ls kk).2.2 + 1 := by
            have := hI'.1 (pat (acat acts i).ls kk).2.2
            exact wrap64 (by omega) (by omega)
          have hp := put_ok R ps' [pat (acat acts i).ls kk] q' (some 1) hR.2 hl' (by simp)
          have hI2 := hI'.put (pat (acat acts i).ls kk) (min [pat (acat acts i).ls kk].length (R - ps'.length))
          obtain ⟨m, hm⟩ : ∃ m, min [pat (acat acts i).ls kk].length (R - ps'.length) = m := ⟨_, rfl⟩
          rw [hm] at hp hI2
          have hm1 : (ps' ++ [pat (acat acts i).ls kk].take m).length ≤ R := by simp at hm ⊢; omega
          simp only [bagC, List.map_cons, List.map_nil, prow] at hp
          refine wps_skip ?_
          refine hK21 _ _ ?_
          refine wps_seq fun K23 hK23 => ?_
          refine wps_blk fun K24 hK24 => ?_
          refine wps_seq fun K25 hK25 => ?_
          refine wps_region (by rw [hnt]; rfl) 0 ?_
          simp only [↓kOps_app, ↓evOps_nil, ↓evOps_cons, go_sem, Int.reduceAdd, Int.reduceBEq, Int.reduceEq, Int.reduceLE, Int.reduceLT, Int.reduceNe, Int.reduceSub, Int.reduceToNat, Nat.reduceAdd, Nat.reduceBEq, Nat.reduceEqDiff, Nat.reduceLT, Nat.reduceLeDiff, Nat.reduceMul, Nat.reduceSub, reduceCtorEq, reduceIte, hel2, kgot, hwc, kput]
          repeat (refine And.intro ?_ ?_; · first | rfl | omega | assumption | (simp; done) | (simp; omega) | (intros; omega) | (intros; simp_all; done) | (intros; simp_all; omega) | (and_intros <;> first | rfl | omega | assumption | (simp; done)))
          refine hK25 _ _ ?_
          refine wps_keep [0, 1, 5, 7, 8, 9, 10] (by simp only [keep_cons, keep_nil, keep_done, List.contains_lit_cons, List.contains_lit_nil, List.erase_lit_cons, List.erase_lit_nil, reduceIte, Nat.reduceEqDiff, Bool.false_eq_true]; rfl) ?_
          refine wps_region (by rw [hnt]; rfl) 0 ?_
          simp only [↓kOps_app, ↓evOps_nil, ↓evOps_cons, go_sem, Int.reduceAdd, Int.reduceBEq, Int.reduceEq, Int.reduceLE, Int.reduceLT, Int.reduceNe, Int.reduceSub, Int.reduceToNat, Nat.reduceAdd, Nat.reduceBEq, Nat.reduceEqDiff, Nat.reduceLT, Nat.reduceLeDiff, Nat.reduceMul, Nat.reduceSub, reduceCtorEq, reduceIte, hel2]
          repeat (refine And.intro ?_ ?_; · first | rfl | omega | assumption | (simp; done) | (simp; omega) | (intros; omega) | (intros; simp_all; done) | (intros; simp_all; omega) | (and_intros <;> first | rfl | omega | assumption | (simp; done)))
          refine callT_at [0] [_] hp rfl rfl ⟨rfl, trivial⟩ (by simp only [go_sem, reduceIte, Nat.reduceEqDiff, Nat.reduceAdd, Nat.reduceLT]) (by simp only [go_sem, reduceIte, Nat.reduceEqDiff, Nat.reduceAdd, Nat.reduceLT]) rfl (fun N => by (try simp only [go_sem, reduceIte, Nat.reduceEqDiff, Nat.reduceAdd, Nat.reduceLT]); try rfl) (fun N => by (try simp only [go_sem, reduceIte, Nat.reduceEqDiff, Nat.reduceAdd, Nat.reduceLT]); try rfl) ?_
          simp only [↓kOps_app, ↓evOps_nil, ↓evOps_cons, go_sem, Int.reduceAdd, Int.reduceBEq, Int.reduceEq, Int.reduceLE, Int.reduceLT, Int.reduceNe, Int.reduceSub, Int.reduceToNat, Nat.reduceAdd, Nat.reduceBEq, Nat.reduceEqDiff, Nat.reduceLT, Nat.reduceLeDiff, Nat.reduceMul, Nat.reduceSub, reduceCtorEq, reduceIte, hel2]
          repeat (refine And.intro ?_ ?_; · first | rfl | omega | assumption | (simp; done) | (simp; omega) | (intros; omega) | (intros; simp_all; done) | (intros; simp_all; omega) | (and_intros <;> first | rfl | omega | assumption | (simp; done)))
          refine hK24 _ _ ?_
          refine hK23 _ _ ?_
          refine wps_region (by rw [hnt]; rfl) 0 ?_
          simp only [↓kOps_app, ↓evOps_nil, ↓evOps_cons, go_sem, Int.reduceAdd, Int.reduceBEq, Int.reduceEq, Int.reduceLE, Int.reduceLT, Int.reduceNe, Int.reduceSub, Int.reduceToNat, Nat.reduceAdd, Nat.reduceBEq, Nat.reduceEqDiff, Nat.reduceLT, Nat.reduceLeDiff, Nat.reduceMul, Nat.reduceSub, reduceCtorEq, reduceIte, hwk]
          repeat (refine And.intro ?_ ?_; · first | rfl | omega | assumption | (simp; done) | (simp; omega) | (intros; omega) | (intros; simp_all; done) | (intros; simp_all; omega) | (and_intros <;> first | rfl | omega | assumption | (simp; done)))
          exact hKM _ _ ((acat acts i).ls.length - (kk + 1)) _ _ (entL hc0 [some 0, some 1, some 2] rfl rfl (by simp only [go_sem, reduceIte, Nat.reduceEqDiff, Nat.reduceAdd, Nat.reduceLT]) (by simp only [go_sem, reduceIte, Nat.reduceEqDiff, Nat.reduceAdd, Nat.reduceLT])) ⟨kk + 1, ps' ++ [pat (acat acts i).ls kk].take m, none, _, rfl, by omega, by omega, hm1, hI2, rfl, rfl⟩ (by omega)
        · refine wps_exit ?_
          simp only [reduceIte, Nat.reduceEqDiff]
          refine hK20 _ _ ?_
          refine hK17 _ _ ?_
          exact hJ3 ps' q' ks' hl' (hI'.mono (by omega) fun p hp => hp) _ _ (entL hc0 [some 0, some 1] rfl rfl (by simp only [go_sem, reduceIte, Nat.reduceEqDiff, Nat.reduceAdd, Nat.reduceLT]) (by simp only [go_sem, reduceIte, Nat.reduceEqDiff, Nat.reduceAdd, Nat.reduceLT]))
      · refine wps_seq fun K26 hK26 => ?_
        refine wps_region (by rw [hnt]; rfl) 0 ?_
        simp only [↓kOps_app, ↓evOps_nil, ↓evOps_cons, go_sem, Int.reduceAdd, Int.reduceBEq, Int.reduceEq, Int.reduceLE, Int.reduceLT, Int.reduceNe, Int.reduceSub, Int.reduceToNat, Nat.reduceAdd, Nat.reduceBEq, Nat.reduceEqDiff, Nat.reduceLT, Nat.reduceLeDiff, Nat.reduceMul, Nat.reduceSub, reduceCtorEq, reduceIte]
        repeat (refine And.intro ?_ ?_; · first | rfl | omega | assumption | (simp; done) | (simp; omega) | (intros; omega) | (intros; simp_all; done) | (intros; simp_all; omega) | (and_intros <;> first | rfl | omega | assumption | (simp; done)))
        refine hK26 _ _ ?_
        refine wps_cond (b := _) rfl (fun h5 => ?_) (fun h5 => ?_)
        · refine wps_seq fun K27 hK27 => ?_
          by_cases hat : 0 ≤ (acat acts i).at_ ∧ (acat acts i).at_ < ps.length
          rotate_left
          · have hp := take_bad R ps q (acat acts i).at_ hat
            simp only [bagC] at hp
            refine wps_region (by rw [hnt]; rfl) 1 ?_
            simp only [↓kOps_app, ↓evOps_nil, ↓evOps_cons, go_sem, Int.reduceAdd, Int.reduceBEq, Int.reduceEq, Int.reduceLE, Int.reduceLT, Int.reduceNe, Int.reduceSub, Int.reduceToNat, Nat.reduceAdd, Nat.reduceBEq, Nat.reduceEqDiff, Nat.reduceLT, Nat.reduceLeDiff, Nat.reduceMul, Nat.reduceSub, reduceCtorEq, reduceIte]
            repeat (refine And.intro ?_ ?_; · first | rfl | omega | assumption | (simp; done) | (simp; omega) | (intros; omega) | (intros; simp_all; done) | (intros; simp_all; omega) | (and_intros <;> first | rfl | omega | assumption | (simp; done)))
            refine callT_at [0] [_] hp rfl rfl ⟨rfl, trivial⟩ (by simp only [go_sem, reduceIte, Nat.reduceEqDiff, Nat.reduceAdd, Nat.reduceLT]) (by simp only [go_sem, reduceIte, Nat.reduceEqDiff, Nat.reduceAdd, Nat.reduceLT]) rfl (fun N => by (try simp only [go_sem, reduceIte, Nat.reduceEqDiff, Nat.reduceAdd, Nat.reduceLT]); try rfl) (fun N => by (try simp only [go_sem, reduceIte, Nat.reduceEqDiff, Nat.reduceAdd, Nat.reduceLT]); try rfl) ?_
            simp only [↓kOps_app, ↓evOps_nil, ↓evOps_cons, go_sem, Int.reduceAdd, Int.reduceBEq, Int.reduceEq, Int.reduceLE, Int.reduceLT, Int.reduceNe, Int.reduceSub, Int.reduceToNat, Nat.reduceAdd, Nat.reduceBEq, Nat.reduceEqDiff, Nat.reduceLT, Nat.reduceLeDiff, Nat.reduceMul, Nat.reduceSub, reduceCtorEq, reduceIte]
            repeat (refine And.intro ?_ ?_; · first | rfl | omega | assumption | (simp; done) | (simp; omega) | (intros; omega) | (intros; simp_all; done) | (intros; simp_all; omega) | (and_intros <;> first | rfl | omega | assumption | (simp; done)))
            refine hK27 _ _ ?_
            refine wps_seq fun K28 hK28 => ?_
            refine wps_keep [0, 1, 5, 7, 8, 11, 12] (by simp only [keep_cons, keep_nil, keep_done, List.contains_lit_cons, List.contains_lit_nil, List.erase_lit_cons, List.erase_lit_nil, reduceIte, Nat.reduceEqDiff, Bool.false_eq_true]; rfl) ?_
            refine wps_region (by rw [hnt]; rfl) 0 ?_
            simp only [↓kOps_app, ↓evOps_nil, ↓evOps_cons, go_sem, Int.reduceAdd, Int.reduceBEq, Int.reduceEq, Int.reduceLE, Int.reduceLT, Int.reduceNe, Int.reduceSub, Int.reduceToNat, Nat.reduceAdd, Nat.reduceBEq, Nat.reduceEqDiff, Nat.reduceLT, Nat.reduceLeDiff, Nat.reduceMul, Nat.reduceSub, reduceCtorEq, reduceIte, kgot]
            repeat (refine And.intro ?_ ?_; · first | rfl | omega | assumption | (simp; done) | (simp; omega) | (intros; omega) | (intros; simp_all; done) | (intros; simp_all; omega) | (and_intros <;> first | rfl | omega | assumption | (simp; done)))
            refine hK28 _ _ ?_
            refine wps_cond (b := _) rfl (fun h6 => ?_) (fun h6 => ?_)
            · exact absurd h6 (by simp)
            · refine wps_skip ?_
              refine hK17 _ _ ?_
              exact hJ3 ps q ks hl (hI.mono (by omega) fun p hp => hp) _ _ (entL hc0 [some 0, some 1] rfl rfl (by simp only [go_sem, reduceIte, Nat.reduceEqDiff, Nat.reduceAdd, Nat.reduceLT]) (by simp only [go_sem, reduceIte, Nat.reduceEqDiff, Nat.reduceAdd, Nat.reduceLT]))
          · obtain ⟨n, hn'⟩ : ∃ n : Nat, (acat acts i).at_ = n := ⟨(acat acts i).at_.toNat, by omega⟩
            rw [hn'] at hat ⊢
            have hp := take_ok R ps q n hry (by omega)
            have hge := hI.2 (pat ps n) (pat_mem (by omega))
            have hcz : (kcnt ks (pat ps n).2.2 == 0) = false := by simp; omega
            have hko := kkeys (pat ps n).2.2 ks
            simp only [bagC] at hp
            refine wps_region (by rw [hnt]; rfl) 1 ?_
            simp only [↓kOps_app, ↓evOps_nil, ↓evOps_cons, go_sem, Int.reduceAdd, Int.reduceBEq, Int.reduceEq, Int.reduceLE, Int.reduceLT, Int.reduceNe, Int.reduceSub, Int.reduceToNat, Nat.reduceAdd, Nat.reduceBEq, Nat.reduceEqDiff, Nat.reduceLT, Nat.reduceLeDiff, Nat.reduceMul, Nat.reduceSub, reduceCtorEq, reduceIte]
            repeat (refine And.intro ?_ ?_; · first | rfl | omega | assumption | (simp; done) | (simp; omega) | (intros; omega) | (intros; simp_all; done) | (intros; simp_all; omega) | (and_intros <;> first | rfl | omega | assumption | (simp; done)))
            refine callT_at [0] [_] hp rfl rfl ⟨rfl, trivial⟩ (by simp only [go_sem, reduceIte, Nat.reduceEqDiff, Nat.reduceAdd, Nat.reduceLT]) (by simp only [go_sem, reduceIte, Nat.reduceEqDiff, Nat.reduceAdd, Nat.reduceLT]) rfl (fun N => by (try simp only [go_sem, reduceIte, Nat.reduceEqDiff, Nat.reduceAdd, Nat.reduceLT]); try rfl) (fun N => by (try simp only [go_sem, reduceIte, Nat.reduceEqDiff, Nat.reduceAdd, Nat.reduceLT]); try rfl) ?_
            simp only [↓kOps_app, ↓evOps_nil, ↓evOps_cons, go_sem, Int.reduceAdd, Int.reduceBEq, Int.reduceEq, Int.reduceLE, Int.reduceLT, Int.reduceNe, Int.reduceSub, Int.reduceToNat, Nat.reduceAdd, Nat.reduceBEq, Nat.reduceEqDiff, Nat.reduceLT, Nat.reduceLeDiff, Nat.reduceMul, Nat.reduceSub, reduceCtorEq, reduceIte]
            repeat (refine And.intro ?_ ?_; · first | rfl | omega | assumption | (simp; done) | (simp; omega) | (intros; omega) | (intros; simp_all; done) | (intros; simp_all; omega) | (and_intros <;> first | rfl | omega | assumption | (simp; done)))
            refine hK27 _ _ ?_
            refine wps_seq fun K29 hK29 => ?_
            refine wps_keep [0, 1, 5, 7, 8, 11, 12] (by simp only [keep_cons, keep_nil, keep_done, List.contains_lit_cons, List.contains_lit_nil, List.erase_lit_cons, List.erase_lit_nil, reduceIte, Nat.reduceEqDiff, Bool.false_eq_true]; rfl) ?_
            refine wps_region (by rw [hnt]; rfl) 0 ?_
            simp only [↓kOps_app, ↓evOps_nil, ↓evOps_cons, go_sem, Int.reduceAdd, Int.reduceBEq, Int.reduceEq, Int.reduceLE, Int.reduceLT, Int.reduceNe, Int.reduceSub, Int.reduceToNat, Nat.reduceAdd, Nat.reduceBEq, Nat.reduceEqDiff, Nat.reduceLT, Nat.reduceLeDiff, Nat.reduceMul, Nat.reduceSub, reduceCtorEq, reduceIte, kgot, hcz]
            repeat (refine And.intro ?_ ?_; · first | rfl | omega | assumption | (simp; done) | (simp; omega) | (intros; omega) | (intros; simp_all; done) | (intros; simp_all; omega) | (and_intros <;> first | rfl | omega | assumption | (simp; done)))
            refine hK29 _ _ ?_
            refine wps_cond (b := _) rfl (fun h6 => ?_) (fun h6 => ?_)
            · exact absurd h6 (by simp)
            · refine wps_skip ?_
              refine hK17 _ _ ?_
              exact hJ3 (ps.take n ++ ps.drop (n + 1)) none ks (by simp; omega) (hI.mono (by omega) fun p hp => by
                rcases List.mem_append.1 hp with h | h
                · exact List.mem_of_mem_take h
                · exact List.mem_of_mem_drop h) _ _ (entL hc0 [some 0, some 1] rfl rfl (by simp only [go_sem, reduceIte, Nat.reduceEqDiff, Nat.reduceAdd, Nat.reduceLT]) (by simp only [go_sem, reduceIte, Nat.reduceEqDiff, Nat.reduceAdd, Nat.reduceLT]))
        · refine wps_seq fun K30 hK30 => ?_
          refine wps_region (by rw [hnt]; rfl) 0 ?_
          simp only [↓kOps_app, ↓evOps_nil, ↓evOps_cons, go_sem, Int.reduceAdd, Int.reduceBEq, Int.reduceEq, Int.reduceLE, Int.reduceLT, Int.reduceNe, Int.reduceSub, Int.reduceToNat, Nat.reduceAdd, Nat.reduceBEq, Nat.reduceEqDiff, Nat.reduceLT, Nat.reduceLeDiff, Nat.reduceMul, Nat.reduceSub, reduceCtorEq, reduceIte]
          repeat (refine And.intro ?_ ?_; · first | rfl | omega | assumption | (simp; done) | (simp; omega) | (intros; omega) | (intros; simp_all; done) | (intros; simp_all; omega) | (and_intros <;> first | rfl | omega | assumption | (simp; done)))
          refine hK30 _ _ ?_
          refine wps_cond (b := _) rfl (fun h7 => ?_) (fun h7 => ?_)
          · by_cases hat : 0 ≤ (acat acts i).at_ ∧ (acat acts i).at_ < ps.length
            by_cases hfu : ps.length = R
            · obtain ⟨n, hn'⟩ : ∃ n : Nat, (acat acts i).at_ = n := ⟨(acat acts i).at_.toNat, by omega⟩
              rw [hn'] at hat ⊢
              have hp := copy_full R ps q n hR.2 hfu (by omega)
              simp only [bagC] at hp
              refine wps_region (by rw [hnt]; rfl) 0 ?_
              simp only [↓kOps_app, ↓evOps_nil, ↓evOps_cons, go_sem, Int.reduceAdd, Int.reduceBEq, Int.reduceEq, Int.reduceLE, Int.reduceLT, Int.reduceNe, Int.reduceSub, Int.reduceToNat, Nat.reduceAdd, Nat.reduceBEq, Nat.reduceEqDiff, Nat.reduceLT, Nat.reduceLeDiff, Nat.reduceMul, Nat.reduceSub, reduceCtorEq, reduceIte]
              repeat (refine And.intro ?_ ?_; · first | rfl | omega | assumption | (simp; done) | (simp; omega) | (intros; omega) | (intros; simp_all; done) | (intros; simp_all; omega) | (and_intros <;> first | rfl | omega | assumption | (simp; done)))
              refine callT_at [0] [_] hp rfl rfl ⟨rfl, trivial⟩ (by simp only [go_sem, reduceIte, Nat.reduceEqDiff, Nat.reduceAdd, Nat.reduceLT]) (by simp only [go_sem, reduceIte, Nat.reduceEqDiff, Nat.reduceAdd, Nat.reduceLT]) rfl (fun N => by (try simp only [go_sem, reduceIte, Nat.reduceEqDiff, Nat.reduceAdd, Nat.reduceLT]); try rfl) (fun N => by (try simp only [go_sem, reduceIte, Nat.reduceEqDiff, Nat.reduceAdd, Nat.reduceLT]); try rfl) ?_
              simp only [↓kOps_app, ↓evOps_nil, ↓evOps_cons, go_sem, Int.reduceAdd, Int.reduceBEq, Int.reduceEq, Int.reduceLE, Int.reduceLT, Int.reduceNe, Int.reduceSub, Int.reduceToNat, Nat.reduceAdd, Nat.reduceBEq, Nat.reduceEqDiff, Nat.reduceLT, Nat.reduceLeDiff, Nat.reduceMul, Nat.reduceSub, reduceCtorEq, reduceIte]
              repeat (refine And.intro ?_ ?_; · first | rfl | omega | assumption | (simp; done) | (simp; omega) | (intros; omega) | (intros; simp_all; done) | (intros; simp_all; omega) | (and_intros <;> first | rfl | omega | assumption | (simp; done)))
              refine hK17 _ _ ?_
              exact hJ3 ps q ks hl (hI.mono (by omega) fun p hp => hp) _ _ (entL hc0 [some 0, some 1] rfl rfl (by simp only [go_sem, reduceIte, Nat.reduceEqDiff, Nat.reduceAdd, Nat.reduceLT]) (by simp only [go_sem, reduceIte, Nat.reduceEqDiff, Nat.reduceAdd, Nat.reduceLT]))
            · obtain ⟨n, hn'⟩ : ∃ n : Nat, (acat acts i).at_ = n := ⟨(acat acts i).at_.toNat, by omega⟩
              rw [hn'] at hat ⊢
              have hp := copy_ok R ps q n hR.2 (by omega) (by omega)
              simp only [bagC] at hp
              refine wps_region (by rw [hnt]; rfl) 0 ?_
              simp only [↓kOps_app, ↓evOps_nil, ↓evOps_cons, go_sem, Int.reduceAdd, Int.reduceBEq, Int.reduceEq, Int.reduceLE, Int.reduceLT, Int.reduceNe, Int.reduceSub, Int.reduceToNat, Nat.reduceAdd, Nat.reduceBEq, Nat.reduceEqDiff, Nat.reduceLT, Nat.reduceLeDiff, Nat.reduceMul, Nat.reduceSub, reduceCtorEq, reduceIte]
              repeat (refine And.intro ?_ ?_; · first | rfl | omega | assumption | (simp; done) | (simp; omega) | (intros; omega) | (intros; simp_all; done) | (intros; simp_all; omega) | (and_intros <;> first | rfl | omega | assumption | (simp; done)))
              refine callT_at [0] [_] hp rfl rfl ⟨rfl, trivial⟩ (by simp only [go_sem, reduceIte, Nat.reduceEqDiff, Nat.reduceAdd, Nat.reduceLT]) (by simp only [go_sem, reduceIte, Nat.reduceEqDiff, Nat.reduceAdd, Nat.reduceLT]) rfl (fun N => by (try simp only [go_sem, reduceIte, Nat.reduceEqDiff, Nat.reduceAdd, Nat.reduceLT]); try rfl) (fun N => by (try simp only [go_sem, reduceIte, Nat.reduceEqDiff, Nat.reduceAdd, Nat.reduceLT]); try rfl) ?_
              simp only [↓kOps_app, ↓evOps_nil, ↓evOps_cons, go_sem, Int.reduceAdd, Int.reduceBEq, Int.reduceEq, Int.reduceLE, Int.reduceLT, Int.reduceNe, Int.reduceSub, Int.reduceToNat, Nat.reduceAdd, Nat.reduceBEq, Nat.reduceEqDiff, Nat.reduceLT, Nat.reduceLeDiff, Nat.reduceMul, Nat.reduceSub, reduceCtorEq, reduceIte]
              repeat (refine And.intro ?_ ?_; · first | rfl | omega | assumption | (simp; done) | (simp; omega) | (intros; omega) | (intros; simp_all; done) | (intros; simp_all; omega) | (and_intros <;> first | rfl | omega | assumption | (simp; done)))
              refine hK17 _ _ ?_
              exact hJ3 (ps ++ [pat ps n]) none ks (by simp; omega) (hI.mono (by omega) fun p hp => by
                rcases List.mem_append.1 hp with h | h
                · exact h
                · have : p = pat ps n := by simpa using h
                  subst this; exact pat_mem (by omega)) _ _ (entL hc0 [some 0, some 1] rfl rfl (by simp only [go_sem, reduceIte, Nat.reduceEqDiff, Nat.reduceAdd, Nat.reduceLT]) (by simp only [go_sem, reduceIte, Nat.reduceEqDiff, Nat.reduceAdd, Nat.reduceLT]))
            · have hp := copy_bad R ps q (acat acts i).at_ hat
              simp only [bagC] at hp
              refine wps_region (by rw [hnt]; rfl) 0 ?_
              simp only [↓kOps_app, ↓evOps_nil, ↓evOps_cons, go_sem, Int.reduceAdd, Int.reduceBEq, Int.reduceEq, Int.reduceLE, Int.reduceLT, Int.reduceNe, Int.reduceSub, Int.reduceToNat, Nat.reduceAdd, Nat.reduceBEq, Nat.reduceEqDiff, Nat.reduceLT, Nat.reduceLeDiff, Nat.reduceMul, Nat.reduceSub, reduceCtorEq, reduceIte]
              repeat (refine And.intro ?_ ?_; · first | rfl | omega | assumption | (simp; done) | (simp; omega) | (intros; omega) | (intros; simp_all; done) | (intros; simp_all; omega) | (and_intros <;> first | rfl | omega | assumption | (simp; done)))
              refine callT_at [0] [_] hp rfl rfl ⟨rfl, trivial⟩ (by simp only [go_sem, reduceIte, Nat.reduceEqDiff, Nat.reduceAdd, Nat.reduceLT]) (by simp only [go_sem, reduceIte, Nat.reduceEqDiff, Nat.reduceAdd, Nat.reduceLT]) rfl (fun N => by (try simp only [go_sem, reduceIte, Nat.reduceEqDiff, Nat.reduceAdd, Nat.reduceLT]); try rfl) (fun N => by (try simp only [go_sem, reduceIte, Nat.reduceEqDiff, Nat.reduceAdd, Nat.reduceLT]); try rfl) ?_
              simp only [↓kOps_app, ↓evOps_nil, ↓evOps_cons, go_sem, Int.reduceAdd, Int.reduceBEq, Int.reduceEq, Int.reduceLE, Int.reduceLT, Int.reduceNe, Int.reduceSub, Int.reduceToNat, Nat.reduceAdd, Nat.reduceBEq, Nat.reduceEqDiff, Nat.reduceLT, Nat.reduceLeDiff, Nat.reduceMul, Nat.reduceSub, reduceCtorEq, reduceIte]
              repeat (refine And.intro ?_ ?_; · first | rfl | omega | assumption | (simp; done) | (simp; omega) | (intros; omega) | (intros; simp_all; done) | (intros; simp_all; omega) | (and_intros <;> first | rfl | omega | assumption | (simp; done)))
              refine hK17 _ _ ?_
              exact hJ3 ps q ks hl (hI.mono (by omega) fun p hp => hp) _ _ (entL hc0 [some 0, some 1] rfl rfl (by simp only [go_sem, reduceIte, Nat.reduceEqDiff, Nat.reduceAdd, Nat.reduceLT]) (by simp only [go_sem, reduceIte, Nat.reduceEqDiff, Nat.reduceAdd, Nat.reduceLT]))
          · refine wps_seq fun K31 hK31 => ?_
            refine wps_region (by rw [hnt]; rfl) 0 ?_
            simp only [↓kOps_app, ↓evOps_nil, ↓evOps_cons, go_sem, Int.reduceAdd, Int.reduceBEq, Int.reduceEq, Int.reduceLE, Int.reduceLT, Int.reduceNe, Int.reduceSub, Int.reduceToNat, Nat.reduceAdd, Nat.reduceBEq, Nat.reduceEqDiff, Nat.reduceLT, Nat.reduceLeDiff, Nat.reduceMul, Nat.reduceSub, reduceCtorEq, reduceIte]
            repeat (refine And.intro ?_ ?_; · first | rfl | omega | assumption | (simp; done) | (simp; omega) | (intros; omega) | (intros; simp_all; done) | (intros; simp_all; omega) | (and_intros <;> first | rfl | omega | assumption | (simp; done)))
            refine hK31 _ _ ?_
            refine wps_cond (b := _) rfl (fun h8 => ?_) (fun h8 => ?_)
            · have hp := lose_ok R ps q (acat acts i).fr (acat acts i).to hry
              have hkl := kept_le (acat acts i).fr (acat acts i).to ps
              simp only [bagC] at hp
              refine wps_region (by rw [hnt]; rfl) 0 ?_
              simp only [↓kOps_app, ↓evOps_nil, ↓evOps_cons, go_sem, Int.reduceAdd, Int.reduceBEq, Int.reduceEq, Int.reduceLE, Int.reduceLT, Int.reduceNe, Int.reduceSub, Int.reduceToNat, Nat.reduceAdd, Nat.reduceBEq, Nat.reduceEqDiff, Nat.reduceLT, Nat.reduceLeDiff, Nat.reduceMul, Nat.reduceSub, reduceCtorEq, reduceIte]
              repeat (refine And.intro ?_ ?_; · first | rfl | omega | assumption | (simp; done) | (simp; omega) | (intros; omega) | (intros; simp_all; done) | (intros; simp_all; omega) | (and_intros <;> first | rfl | omega | assumption | (simp; done)))
              refine callT_at [0] [_] hp rfl rfl ⟨rfl, trivial⟩ (by simp only [go_sem, reduceIte, Nat.reduceEqDiff, Nat.reduceAdd, Nat.reduceLT]) (by simp only [go_sem, reduceIte, Nat.reduceEqDiff, Nat.reduceAdd, Nat.reduceLT]) rfl (fun N => by (try simp only [go_sem, reduceIte, Nat.reduceEqDiff, Nat.reduceAdd, Nat.reduceLT]); try rfl) (fun N => by (try simp only [go_sem, reduceIte, Nat.reduceEqDiff, Nat.reduceAdd, Nat.reduceLT]); try rfl) ?_
              simp only [↓kOps_app, ↓evOps_nil, ↓evOps_cons, go_sem, Int.reduceAdd, Int.reduceBEq, Int.reduceEq, Int.reduceLE, Int.reduceLT, Int.reduceNe, Int.reduceSub, Int.reduceToNat, Nat.reduceAdd, Nat.reduceBEq, Nat.reduceEqDiff, Nat.reduceLT, Nat.reduceLeDiff, Nat.reduceMul, Nat.reduceSub, reduceCtorEq, reduceIte]
              repeat (refine And.intro ?_ ?_; · first | rfl | omega | assumption | (simp; done) | (simp; omega) | (intros; omega) | (intros; simp_all; done) | (intros; simp_all; omega) | (and_intros <;> first | rfl | omega | assumption | (simp; done)))
              refine hK17 _ _ ?_
              exact hJ3 (keptB (acat acts i).fr (acat acts i).to ps) none ks (by omega) (hI.mono (by omega) fun p hp => (List.mem_filter.1 hp).1) _ _ (entL hc0 [some 0, some 1] rfl rfl (by simp only [go_sem, reduceIte, Nat.reduceEqDiff, Nat.reduceAdd, Nat.reduceLT]) (by simp only [go_sem, reduceIte, Nat.reduceEqDiff, Nat.reduceAdd, Nat.reduceLT]))
            · refine wps_skip ?_
              refine hK17 _ _ ?_
              exact hJ3 ps q ks hl (hI.mono (by omega) fun p hp => hp) _ _ (entL hc0 [some 0, some 1] rfl rfl (by simp only [go_sem, reduceIte, Nat.reduceEqDiff, Nat.reduceAdd, Nat.reduceLT]) (by simp only [go_sem, reduceIte, Nat.reduceEqDiff, Nat.reduceAdd, Nat.reduceLT]))
    · refine wps_exit ?_
      simp only [reduceIte, Nat.reduceEqDiff]
      refine hK8 _ _ ?_
      refine hK6 _ _ ?_
      refine wps_seq fun K32 hK32 => ?_
      refine wps_region (by rw [hnt]; rfl) 0 ?_
      simp only [↓kOps_app, ↓evOps_nil, ↓evOps_cons, go_sem, Int.reduceAdd, Int.reduceBEq, Int.reduceEq, Int.reduceLE, Int.reduceLT, Int.reduceNe, Int.reduceSub, Int.reduceToNat, Nat.reduceAdd, Nat.reduceBEq, Nat.reduceEqDiff, Nat.reduceLT, Nat.reduceLeDiff, Nat.reduceMul, Nat.reduceSub, reduceCtorEq, reduceIte]
      repeat (refine And.intro ?_ ?_; · first | rfl | omega | assumption | (simp; done) | (simp; omega) | (intros; omega) | (intros; simp_all; done) | (intros; simp_all; omega) | (and_intros <;> first | rfl | omega | assumption | (simp; done)))
      refine hK32 _ _ ?_
      refine wps_ret ?_
      refine retL [] rfl ⟨trivial, trivial⟩ rfl rfl ?_
      simp only [retSV, SV.mv, mvs, subL, List.map_nil, List.map_cons, SObj.mv, posOf, back, List.length_cons, List.length_nil, List.getElem?_cons_zero, List.getElem?_cons_succ, Option.map_some, Nat.reduceAdd, Nat.reduceLT, Nat.zero_add, Nat.lt_add_one, List.getD_cons_zero, List.getD_cons_succ, reduceIte, Nat.reduceEqDiff, Env.get, Env.put, and_true, true_and, implies_true]

theorem put_all (r : Int) (acts : List Ac) : CallT Try.prog 3 [.u (.i .i64 r), .u (.fz (acts.map arow) none)] [] fun x σ => x = .u (.b true) ∧ σ = [] := by
  by_cases h : 1 ≤ r ∧ r ≤ 256
  · obtain ⟨R, rfl⟩ : ∃ R : Nat, r = R := ⟨r.toNat, by omega⟩
    exact put_law R acts ⟨by omega, by omega⟩
  · exact put_badroom r acts (by omega)
end Go.Proofs.Yteoihmgigmiajaa
