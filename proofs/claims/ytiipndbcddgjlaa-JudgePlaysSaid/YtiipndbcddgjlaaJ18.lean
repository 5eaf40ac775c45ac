import Derived.Test.YtiipndbcddgjlaaJ16
set_option linter.all false
set_option linter.unusedSimpArgs false
set_option linter.unusedVariables false
namespace Go.Proofs.Ytiipndbcddgjlaa
open Go.Nm

/-- what loading a batch answers, and the judge behind it -/
def loadS (J : Jd) (cl r s : Int) (ws : List Wt) : (Int × Int) × Jd :=
  if chk ws != 0 then ((0, chk ws), J)
  else if decide (9223372036854775807 ≤ J.last) then ((0, 192), J)
  else ((J.last + 1, 0), ⟨J.last + 1, cmI ws (J.last + 1) ws.length 0 J.ks, if !inT J.ts cl || decide ((getT J.ts cl).1 ≤ r) then aput cl (r, J.last + 1, 0) J.ts else J.ts⟩)

set_option maxHeartbeats 4000000 in
theorem load_ok (J : Jd) (cl r s : Int) (ws : List Wt) (q : Option Nat) (h0 : 0 ≤ J.last) :
    CallT Try.prog 16 [.p 0 0, .agg (bcells cl r s ws q)] J.obs fun x σ => x = .tup [.u (.i .u64 (loadS J cl r s ws).1.1), .u (.i .i64 (loadS J cl r s ws).1.2)] ∧ σ = (loadS J cl r s ws).2.obs := by
  obtain ⟨last, ks, ts⟩ := J
  simp only at h0
  unfold Jd.obs jcells bcells loadS
  simp only
  have hck := check_ok cl r s ws q
  unfold bcells at hck
  refine callT_ofL 54 [.tmp 4, .tmp 5] Try.func16 rfl Try.ntmps16 rfl (Nat.le_of_ble_eq_true rfl) fun c hnt hc0 => ?_
  refine wps_seq fun K1 hK1 => ?_
  refine wps_region (by rw [hnt]; rfl) 1 ?_
  simp only [↓kOps_app, ↓evOps_nil, ↓evOps_cons, go_sem, Int.reduceAdd, Int.reduceBEq, Int.reduceEq, Int.reduceLE, Int.reduceLT, Int.reduceNe, Int.reduceSub, Int.reduceToNat, Nat.reduceAdd, Nat.reduceBEq, Nat.reduceEqDiff, Nat.reduceLT, Nat.reduceLeDiff, Nat.reduceMul, Nat.reduceSub, reduceCtorEq, reduceIte]
  repeat (refine And.intro ?_ ?_; · first | rfl | omega | assumption | (simp; done) | (simp; omega) | (intros; omega) | (intros; simp_all; done) | (intros; simp_all; omega) | (and_intros <;> first | rfl | omega | assumption | (simp; done)))
  refine hK1 _ _ ?_
  refine wps_seq fun K2 hK2 => ?_
  refine wps_seq fun K3 hK3 => ?_
  refine wps_region (by rw [hnt]; rfl) 0 ?_
  simp only [↓kOps_app, ↓evOps_nil, ↓evOps_cons, go_sem, Int.reduceAdd, Int.reduceBEq, Int.reduceEq, Int.reduceLE, Int.reduceLT, Int.reduceNe, Int.reduceSub, Int.reduceToNat, Nat.reduceAdd, Nat.reduceBEq, Nat.reduceEqDiff, Nat.reduceLT, Nat.reduceLeDiff, Nat.reduceMul, Nat.reduceSub, reduceCtorEq, reduceIte]
  repeat (refine And.intro ?_ ?_; · first | rfl | omega | assumption | (simp; done) | (simp; omega) | (intros; omega) | (intros; simp_all; done) | (intros; simp_all; omega) | (and_intros <;> first | rfl | omega | assumption | (simp; done)))
  refine callT_at [] [] hck rfl rfl trivial (by simp only [go_sem, reduceIte, Nat.reduceEqDiff, Nat.reduceAdd, Nat.reduceLT]) (by simp only [go_sem, reduceIte, Nat.reduceEqDiff, Nat.reduceAdd, Nat.reduceLT]) rfl (fun N => by (try simp only [go_sem, reduceIte, Nat.reduceEqDiff, Nat.reduceAdd, Nat.reduceLT]); try rfl) (fun N => by (try simp only [go_sem, reduceIte, Nat.reduceEqDiff, Nat.reduceAdd, Nat.reduceLT]); try rfl) ?_
  simp only [↓kOps_app, ↓evOps_nil, ↓evOps_cons, go_sem, Int.reduceAdd, Int.reduceBEq, Int.reduceEq, Int.reduceLE, Int.reduceLT, Int.reduceNe, Int.reduceSub, Int.reduceToNat, Nat.reduceAdd, Nat.reduceBEq, Nat.reduceEqDiff, Nat.reduceLT, Nat.reduceLeDiff, Nat.reduceMul, Nat.reduceSub, reduceCtorEq, reduceIte]
  repeat (refine And.intro ?_ ?_; · first | rfl | omega | assumption | (simp; done) | (simp; omega) | (intros; omega) | (intros; simp_all; done) | (intros; simp_all; omega) | (and_intros <;> first | rfl | omega | assumption | (simp; done)))
  refine hK3 _ _ ?_
  refine wps_seq fun K4 hK4 => ?_
  refine wps_region (by rw [hnt]; rfl) 0 ?_
  simp only [↓kOps_app, ↓evOps_nil, ↓evOps_cons, go_sem, Int.reduceAdd, Int.reduceBEq, Int.reduceEq, Int.reduceLE, Int.reduceLT, Int.reduceNe, Int.reduceSub, Int.reduceToNat, Nat.reduceAdd, Nat.reduceBEq, Nat.reduceEqDiff, Nat.reduceLT, Nat.reduceLeDiff, Nat.reduceMul, Nat.reduceSub, reduceCtorEq, reduceIte]
  repeat (refine And.intro ?_ ?_; · first | rfl | omega | assumption | (simp; done) | (simp; omega) | (intros; omega) | (intros; simp_all; done) | (intros; simp_all; omega) | (and_intros <;> first | rfl | omega | assumption | (simp; done)))
  refine hK4 _ _ ?_
  refine wps_cond (b := _) rfl (fun h1 => ?_) (fun h1 => ?_)
  · refine wps_seq fun K5 hK5 => ?_
    refine wps_region (by rw [hnt]; rfl) 0 ?_
    simp only [↓kOps_app, ↓evOps_nil, ↓evOps_cons, go_sem, Int.reduceAdd, Int.reduceBEq, Int.reduceEq, Int.reduceLE, Int.reduceLT, Int.reduceNe, Int.reduceSub, Int.reduceToNat, Nat.reduceAdd, Nat.reduceBEq, Nat.reduceEqDiff, Nat.reduceLT, Nat.reduceLeDiff, Nat.reduceMul, Nat.reduceSub, reduceCtorEq, reduceIte]
    repeat (refine And.intro ?_ ?_; · first | rfl | omega | assumption | (simp; done) | (simp; omega) | (intros; omega) | (intros; simp_all; done) | (intros; simp_all; omega) | (and_intros <;> first | rfl | omega | assumption | (simp; done)))
    refine hK5 _ _ ?_
    refine wps_ret ?_
    refine retL [some 0, some 1, some 2] (by simp only [resAll, resSV, ↓kOps_app, ↓evOps_nil, ↓evOps_cons, go_sem, Int.reduceAdd, Int.reduceBEq, Int.reduceEq, Int.reduceLE, Int.reduceLT, Int.reduceNe, Int.reduceSub, Int.reduceToNat, Nat.reduceAdd, Nat.reduceBEq, Nat.reduceEqDiff, Nat.reduceLT, Nat.reduceLeDiff, Nat.reduceMul, Nat.reduceSub, reduceCtorEq, reduceIte]; rfl) (by simp only [resObs, resOb, ↓kOps_app, ↓evOps_nil, ↓evOps_cons, go_sem, Int.reduceAdd, Int.reduceBEq, Int.reduceEq, Int.reduceLE, Int.reduceLT, Int.reduceNe, Int.reduceSub, Int.reduceToNat, Nat.reduceAdd, Nat.reduceBEq, Nat.reduceEqDiff, Nat.reduceLT, Nat.reduceLeDiff, Nat.reduceMul, Nat.reduceSub, reduceCtorEq, reduceIte]) rfl rfl ?_
    simp only [retSV, SV.mv, mvs, subL, List.map_nil, List.map_cons, SObj.mv, posOf, back, List.length_cons, List.length_nil, List.getElem?_cons_zero, List.getElem?_cons_succ, Option.map_some, Nat.reduceAdd, Nat.reduceLT, Nat.zero_add, Nat.lt_add_one, List.getD_cons_zero, List.getD_cons_succ, reduceIte, Nat.reduceEqDiff, Env.get, Env.put, and_true, true_and, implies_true, h1, Bool.false_eq_true, reduceIte, jcells, Jd.obs]
  · have hlen := chk_len (ws := ws) (by simpa using h1)
    refine wps_skip ?_
    refine hK2 _ _ ?_
    refine wps_seq fun K6 hK6 => ?_
    refine wps_seq fun K7 hK7 => ?_
    refine wps_region (by rw [hnt]; rfl) 0 ?_
    simp only [↓kOps_app, ↓evOps_nil, ↓evOps_cons, go_sem, Int.reduceAdd, Int.reduceBEq, Int.reduceEq, Int.reduceLE, Int.reduceLT, Int.reduceNe, Int.reduceSub, Int.reduceToNat, Nat.reduceAdd, Nat.reduceBEq, Nat.reduceEqDiff, Nat.reduceLT, Nat.reduceLeDiff, Nat.reduceMul, Nat.reduceSub, reduceCtorEq, reduceIte]
    repeat (refine And.intro ?_ ?_; · first | rfl | omega | assumption | (simp; done) | (simp; omega) | (intros; omega) | (intros; simp_all; done) | (intros; simp_all; omega) | (and_intros <;> first | rfl | omega | assumption | (simp; done)))
    refine hK7 _ _ ?_
    refine wps_cond (b := _) rfl (fun h2 => ?_) (fun h2 => ?_)
    · refine wps_seq fun K8 hK8 => ?_
      refine wps_region (by rw [hnt]; rfl) 0 ?_
      simp only [↓kOps_app, ↓evOps_nil, ↓evOps_cons, go_sem, Int.reduceAdd, Int.reduceBEq, Int.reduceEq, Int.reduceLE, Int.reduceLT, Int.reduceNe, Int.reduceSub, Int.reduceToNat, Nat.reduceAdd, Nat.reduceBEq, Nat.reduceEqDiff, Nat.reduceLT, Nat.reduceLeDiff, Nat.reduceMul, Nat.reduceSub, reduceCtorEq, reduceIte]
      repeat (refine And.intro ?_ ?_; · first | rfl | omega | assumption | (simp; done) | (simp; omega) | (intros; omega) | (intros; simp_all; done) | (intros; simp_all; omega) | (and_intros <;> first | rfl | omega | assumption | (simp; done)))
      refine hK8 _ _ ?_
      refine wps_ret ?_
      refine retL [some 0, some 1, some 2] (by simp only [resAll, resSV, ↓kOps_app, ↓evOps_nil, ↓evOps_cons, go_sem, Int.reduceAdd, Int.reduceBEq, Int.reduceEq, Int.reduceLE, Int.reduceLT, Int.reduceNe, Int.reduceSub, Int.reduceToNat, Nat.reduceAdd, Nat.reduceBEq, Nat.reduceEqDiff, Nat.reduceLT, Nat.reduceLeDiff, Nat.reduceMul, Nat.reduceSub, reduceCtorEq, reduceIte]; rfl) (by simp only [resObs, resOb, ↓kOps_app, ↓evOps_nil, ↓evOps_cons, go_sem, Int.reduceAdd, Int.reduceBEq, Int.reduceEq, Int.reduceLE, Int.reduceLT, Int.reduceNe, Int.reduceSub, Int.reduceToNat, Nat.reduceAdd, Nat.reduceBEq, Nat.reduceEqDiff, Nat.reduceLT, Nat.reduceLeDiff, Nat.reduceMul, Nat.reduceSub, reduceCtorEq, reduceIte]) rfl rfl ?_
      simp only [retSV, SV.mv, mvs, subL, List.map_nil, List.map_cons, SObj.mv, posOf, back, List.length_cons, List.length_nil, List.getElem?_cons_zero, List.getElem?_cons_succ, Option.map_some, Nat.reduceAdd, Nat.reduceLT, Nat.zero_add, Nat.lt_add_one, List.getD_cons_zero, List.getD_cons_succ, reduceIte, Nat.reduceEqDiff, Env.get, Env.put, and_true, true_and, implies_true, h1, h2, Bool.false_eq_true, reduceIte, jcells, Jd.obs]
    · have hlast : last < 9223372036854775807 := by simpa using h2
      have hcm := commit_ok last cl r s ws q ks (ts.map tent) hlen h0 hlast
      unfold bcells jcells at hcm
      refine wps_skip ?_
      refine hK6 _ _ ?_
      refine wps_seq fun K9 hK9 => ?_
      refine wps_region (by rw [hnt]; rfl) 0 ?_
      simp only [↓kOps_app, ↓evOps_nil, ↓evOps_cons, go_sem, Int.reduceAdd, Int.reduceBEq, Int.reduceEq, Int.reduceLE, Int.reduceLT, Int.reduceNe, Int.reduceSub, Int.reduceToNat, Nat.reduceAdd, Nat.reduceBEq, Nat.reduceEqDiff, Nat.reduceLT, Nat.reduceLeDiff, Nat.reduceMul, Nat.reduceSub, reduceCtorEq, reduceIte]
      repeat (refine And.intro ?_ ?_; · first | rfl | omega | assumption | (simp; done) | (simp; omega) | (intros; omega) | (intros; simp_all; done) | (intros; simp_all; omega) | (and_intros <;> first | rfl | omega | assumption | (simp; done)))
      refine callT_at [0, 1, 2] [_, _, _] hcm rfl rfl ⟨rfl, rfl, rfl, trivial⟩ (by simp only [go_sem, reduceIte, Nat.reduceEqDiff, Nat.reduceAdd, Nat.reduceLT]) (by simp only [go_sem, reduceIte, Nat.reduceEqDiff, Nat.reduceAdd, Nat.reduceLT]) rfl (fun N => by (try simp only [go_sem, reduceIte, Nat.reduceEqDiff, Nat.reduceAdd, Nat.reduceLT]); try rfl) (fun N => by (try simp only [go_sem, reduceIte, Nat.reduceEqDiff, Nat.reduceAdd, Nat.reduceLT]); try rfl) ?_
      simp only [↓kOps_app, ↓evOps_nil, ↓evOps_cons, go_sem, Int.reduceAdd, Int.reduceBEq, Int.reduceEq, Int.reduceLE, Int.reduceLT, Int.reduceNe, Int.reduceSub, Int.reduceToNat, Nat.reduceAdd, Nat.reduceBEq, Nat.reduceEqDiff, Nat.reduceLT, Nat.reduceLeDiff, Nat.reduceMul, Nat.reduceSub, reduceCtorEq, reduceIte]
      repeat (refine And.intro ?_ ?_; · first | rfl | omega | assumption | (simp; done) | (simp; omega) | (intros; omega) | (intros; simp_all; done) | (intros; simp_all; omega) | (and_intros <;> first | rfl | omega | assumption | (simp; done)))
      refine hK9 _ _ ?_
      refine wps_seq fun K10 hK10 => ?_
      refine wps_seq fun K11 hK11 => ?_
      refine wps_drawL mixed (by rw [hnt]; rfl) (by kernel_rfl) 1 (ms := [0, 1, 3, 7, 0, 16, 63, 127, 255, 255, 0, 1535, 4095]) (by kernel_rfl) ?_
      simp only [↓kOps_app, ↓evOps_nil, ↓evOps_cons, go_sem, Int.reduceAdd, Int.reduceBEq, Int.reduceEq, Int.reduceLE, Int.reduceLT, Int.reduceNe, Int.reduceSub, Int.reduceToNat, Nat.reduceAdd, Nat.reduceBEq, Nat.reduceEqDiff, Nat.reduceLT, Nat.reduceLeDiff, Nat.reduceMul, Nat.reduceSub, reduceCtorEq, reduceIte, tkeys, tgot, tin]
      repeat (refine And.intro ?_ ?_; · first | rfl | omega | assumption | (simp; done) | (simp; omega) | (intros; omega) | (intros; simp_all; done) | (intros; simp_all; omega) | (and_intros <;> first | rfl | omega | assumption | (simp; done)))
      refine hK11 _ _ ?_
      refine wps_seq fun K12 hK12 => ?_
      refine wps_region (by rw [hnt]; rfl) 0 ?_
      simp only [↓kOps_app, ↓evOps_nil, ↓evOps_cons, go_sem, Int.reduceAdd, Int.reduceBEq, Int.reduceEq, Int.reduceLE, Int.reduceLT, Int.reduceNe, Int.reduceSub, Int.reduceToNat, Nat.reduceAdd, Nat.reduceBEq, Nat.reduceEqDiff, Nat.reduceLT, Nat.reduceLeDiff, Nat.reduceMul, Nat.reduceSub, reduceCtorEq, reduceIte]
      repeat (refine And.intro ?_ ?_; · first | rfl | omega | assumption | (simp; done) | (simp; omega) | (intros; omega) | (intros; simp_all; done) | (intros; simp_all; omega) | (and_intros <;> first | rfl | omega | assumption | (simp; done)))
      refine hK12 _ _ ?_
      refine wps_cond (b := _) rfl (fun h3 => ?_) (fun h3 => ?_)
      · refine wps_drawL mixed (by rw [hnt]; rfl) (by kernel_rfl) 0 (ms := [0, 1, 3, 7, 0, 16, 0, 64, 0, 256, 960, 2047]) (by kernel_rfl) ?_
        simp only [↓kOps_app, ↓evOps_nil, ↓evOps_cons, go_sem, Int.reduceAdd, Int.reduceBEq, Int.reduceEq, Int.reduceLE, Int.reduceLT, Int.reduceNe, Int.reduceSub, Int.reduceToNat, Nat.reduceAdd, Nat.reduceBEq, Nat.reduceEqDiff, Nat.reduceLT, Nat.reduceLeDiff, Nat.reduceMul, Nat.reduceSub, reduceCtorEq, reduceIte, tkeys, tput]
        repeat (refine And.intro ?_ ?_; · first | rfl | omega | assumption | (simp; done) | (simp; omega) | (intros; omega) | (intros; simp_all; done) | (intros; simp_all; omega) | (and_intros <;> first | rfl | omega | assumption | (simp; done)))
        refine hK10 _ _ ?_
        refine wps_seq fun K13 hK13 => ?_
        refine wps_region (by rw [hnt]; rfl) 0 ?_
        simp only [↓kOps_app, ↓evOps_nil, ↓evOps_cons, go_sem, Int.reduceAdd, Int.reduceBEq, Int.reduceEq, Int.reduceLE, Int.reduceLT, Int.reduceNe, Int.reduceSub, Int.reduceToNat, Nat.reduceAdd, Nat.reduceBEq, Nat.reduceEqDiff, Nat.reduceLT, Nat.reduceLeDiff, Nat.reduceMul, Nat.reduceSub, reduceCtorEq, reduceIte]
        repeat (refine And.intro ?_ ?_; · first | rfl | omega | assumption | (simp; done) | (simp; omega) | (intros; omega) | (intros; simp_all; done) | (intros; simp_all; omega) | (and_intros <;> first | rfl | omega | assumption | (simp; done)))
        refine hK13 _ _ ?_
        refine wps_ret ?_
        refine retL [some 0, some 1, some 2] (by simp only [resAll, resSV, ↓kOps_app, ↓evOps_nil, ↓evOps_cons, go_sem, Int.reduceAdd, Int.reduceBEq, Int.reduceEq, Int.reduceLE, Int.reduceLT, Int.reduceNe, Int.reduceSub, Int.reduceToNat, Nat.reduceAdd, Nat.reduceBEq, Nat.reduceEqDiff, Nat.reduceLT, Nat.reduceLeDiff, Nat.reduceMul, Nat.reduceSub, reduceCtorEq, reduceIte]; rfl) (by simp only [resObs, resOb, ↓kOps_app, ↓evOps_nil, ↓evOps_cons, go_sem, Int.reduceAdd, Int.reduceBEq, Int.reduceEq, Int.reduceLE, Int.reduceLT, Int.reduceNe, Int.reduceSub, Int.reduceToNat, Nat.reduceAdd, Nat.reduceBEq, Nat.reduceEqDiff, Nat.reduceLT, Nat.reduceLeDiff, Nat.reduceMul, Nat.reduceSub, reduceCtorEq, reduceIte]) rfl rfl ?_
        simp only [retSV, SV.mv, mvs, subL, List.map_nil, List.map_cons, SObj.mv, posOf, back, List.length_cons, List.length_nil, List.getElem?_cons_zero, List.getElem?_cons_succ, Option.map_some, Nat.reduceAdd, Nat.reduceLT, Nat.zero_add, Nat.lt_add_one, List.getD_cons_zero, List.getD_cons_succ, reduceIte, Nat.reduceEqDiff, Env.get, Env.put, and_true, true_and, implies_true, h1, h2, h3, Bool.false_eq_true, reduceIte, jcells, Jd.obs]
      · refine wps_skip ?_
        refine hK10 _ _ ?_
        refine wps_seq fun K14 hK14 => ?_
        refine wps_region (by rw [hnt]; rfl) 0 ?_
        simp only [↓kOps_app, ↓evOps_nil, ↓evOps_cons, go_sem, Int.reduceAdd, Int.reduceBEq, Int.reduceEq, Int.reduceLE, Int.reduceLT, Int.reduceNe, Int.reduceSub, Int.reduceToNat, Nat.reduceAdd, Nat.reduceBEq, Nat.reduceEqDiff, Nat.reduceLT, Nat.reduceLeDiff, Nat.reduceMul, Nat.reduceSub, reduceCtorEq, reduceIte]
        repeat (refine And.intro ?_ ?_; · first | rfl | omega | assumption | (simp; done) | (simp; omega) | (intros; omega) | (intros; simp_all; done) | (intros; simp_all; omega) | (and_intros <;> first | rfl | omega | assumption | (simp; done)))
        refine hK14 _ _ ?_
        refine wps_ret ?_
        refine retL [some 0, some 1, some 2] (by simp only [resAll, resSV, ↓kOps_app, ↓evOps_nil, ↓evOps_cons, go_sem, Int.reduceAdd, Int.reduceBEq, Int.reduceEq, Int.reduceLE, Int.reduceLT, Int.reduceNe, Int.reduceSub, Int.reduceToNat, Nat.reduceAdd, Nat.reduceBEq, Nat.reduceEqDiff, Nat.reduceLT, Nat.reduceLeDiff, Nat.reduceMul, Nat.reduceSub, reduceCtorEq, reduceIte]; rfl) (by simp only [resObs, resOb, ↓kOps_app, ↓evOps_nil, ↓evOps_cons, go_sem, Int.reduceAdd, Int.reduceBEq, Int.reduceEq, Int.reduceLE, Int.reduceLT, Int.reduceNe, Int.reduceSub, Int.reduceToNat, Nat.reduceAdd, Nat.reduceBEq, Nat.reduceEqDiff, Nat.reduceLT, Nat.reduceLeDiff, Nat.reduceMul, Nat.reduceSub, reduceCtorEq, reduceIte]) rfl rfl ?_
        simp only [retSV, SV.mv, mvs, subL, List.map_nil, List.map_cons, SObj.mv, posOf, back, List.length_cons, List.length_nil, List.getElem?_cons_zero, List.getElem?_cons_succ, Option.map_some, Nat.reduceAdd, Nat.reduceLT, Nat.zero_add, Nat.lt_add_one, List.getD_cons_zero, List.getD_cons_succ, reduceIte, Nat.reduceEqDiff, Env.get, Env.put, and_true, true_and, implies_true, h1, h2, h3, Bool.false_eq_true, reduceIte, jcells, Jd.obs]

/-! ### the law of Loads -/
theorem inT_aput (c k : Int) (p : Int × Int × Int) (ts : List (Int × Int × Int × Int)) : inT (aput k p ts) c = true ↔ c = k ∨ inT ts c = true := by
  unfold inT
  rw [aget_aput]
  by_cases h : c = k
  · simp [h]
  · rw [if_neg (by simpa using h)]; simp [h]

def stp (p : Int × List (List UInt8 × Int)) (b : Bt) : Int × List (List UInt8 × Int) := (p.1 + 1, cmI b.ws (p.1 + 1) b.ws.length 0 p.2)

structure FirI (bs : List Bt) (done : List Bt) (J : Jd) : Prop where
  st : (J.last, J.ks) = done.foldl stp (0, [])
  last : J.last = done.length
  ok : ∀ b ∈ done, chk b.ws = 0 ∧ ∃ b' ∈ bs, b'.c = b.c
  ts : ∀ c, inT J.ts c = true → ∃ b ∈ bs, b.c = c

theorem fir_zero (bs : List Bt) : FirI bs [] ⟨0, [], []⟩ := ⟨rfl, rfl, fun _ h => by simp at h, fun _ h => by simp [inT, aget] at h⟩

theorem fir_say {bs done : List Bt} {J : Jd} (h : FirI bs done J) (cl r s : Int) (ws : List Wt) (hc : ∃ b ∈ bs, b.c = cl) :
    ((sayS J cl r s ws).2.last = J.last ∧ FirI bs done (sayS J cl r s ws).2) ∨
    ((sayS J cl r s ws).2.last = J.last + 1 ∧ FirI bs (done ++ [⟨cl, r, s, ws⟩]) (sayS J cl r s ws).2) := by
  have put : ∀ (p : Int × Int × Int) c, inT (aput cl p J.ts) c = true → ∃ b ∈ bs, b.c = c := by
    intro p c hc'
    rcases (inT_aput _ _ _ _).1 hc' with e | e
    · subst e; exact hc
    · exact h.ts c e
  unfold sayS
  split
  · exact .inl ⟨rfl, h⟩
  · rename_i h1
    split
    · exact .inl ⟨rfl, h⟩
    · split
      · exact .inl ⟨rfl, h⟩
      · split
        · exact .inl ⟨rfl, h⟩
        · split
          · exact .inl ⟨rfl, h⟩
          · split
            · exact .inl ⟨rfl, ⟨h.st, h.last, h.ok, put _⟩⟩
            · refine .inr ⟨rfl, ⟨?_, ?_, ?_, put _⟩⟩
              · rw [List.foldl_append, ← h.st]; rfl
              · simp only [List.length_append, List.length_singleton]; rw [h.last]; omega
              · intro b hb
                rcases List.mem_append.1 hb with hb | hb
                · exact h.ok b hb
                · rw [List.mem_singleton.1 hb]
                  exact ⟨by simpa using h1, hc⟩

structure SecI (bs done : List Bt) (t : Nat) (K : Jd) : Prop where
  st : (K.last, K.ks) = (done.take t).foldl stp (0, [])
  last : K.last = t
  ts : ∀ c, inT K.ts c = true → ∃ b ∈ bs, b.c = c

theorem sec_zero (bs done : List Bt) : SecI bs done 0 ⟨0, [], []⟩ := ⟨rfl, rfl, fun _ h => by simp [inT, aget] at h⟩

theorem sec_load {bs done : List Bt} {J K : Jd} {t : Nat} (hF : FirI bs done J) (h : SecI bs done t K) (ht : t < done.length) (hs : t < 1000) :
    ∃ K', loadS K (bat done t).c (bat done t).r (bat done t).s (bat done t).ws = (((t : Int) + 1, 0), K') ∧ SecI bs done (t + 1) K' := by
  have hmem : bat done t ∈ done := by
    rw [bat, List.getD_eq_getElem?_getD, List.getElem?_eq_getElem ht]; exact List.getElem_mem ht
  obtain ⟨hck, hcl⟩ := hF.ok _ hmem
  have hl := h.last
  have hget : done[t]'ht = bat done t := by
    rw [bat, List.getD_eq_getElem?_getD, List.getElem?_eq_getElem ht]; rfl
  unfold loadS
  rw [if_neg (by rw [hck]; decide), if_neg (by simp; omega)]
  refine ⟨_, by rw [hl], ⟨?_, by simp only; omega, fun c hc => ?_⟩⟩
  · rw [List.take_succ_eq_append_getElem ht, List.foldl_append, ← h.st, hget]; simp only [List.foldl_cons, List.foldl_nil, stp, hl]
  · simp only at hc
    split at hc
    · rcases (inT_aput _ _ _ _).1 hc with e | e
      · subst e; exact hcl
      · exact h.ts c e
    · exact h.ts c hc

structure ThiI (bs : List Bt) (i : Nat) (J K : Jd) : Prop where
  last : K.last = J.last
  lo : 0 ≤ J.last
  ks : K.ks = J.ks
  tj : ∀ c, inT J.ts c = true → (∃ b ∈ bs, b.c = c) ∨ (1000000 ≤ c ∧ c < 1000000 + i)
  tk : ∀ c, inT K.ts c = true → (∃ b ∈ bs, b.c = c) ∨ (1000000 ≤ c ∧ c < 1000000 + i)

theorem thi_of {bs done : List Bt} {J K : Jd} (hF : FirI bs done J) (hS : SecI bs done done.length K) : ThiI bs 0 J K := by
  have h1 := hS.st
  rw [List.take_length, ← hF.st] at h1
  obtain ⟨e1, e2⟩ := Prod.mk.injEq .. ▸ h1
  exact ⟨e1, by rw [hF.last]; omega, e2, fun c hc => .inl (hF.ts c hc), fun c hc => .inl (hS.ts c hc)⟩

theorem thi_say {bs : List Bt} {i : Nat} {J K : Jd} (h : ThiI bs i J K) (hb : ∀ b ∈ bs, b.c < 1000000) (s : Int) (ws : List Wt) :
    ∃ v J' K', sayS J (i + 1000000) 1 s ws = (v, J') ∧ sayS K (i + 1000000) 1 s ws = (v, K') ∧ ThiI bs (i + 1) J' K' := by
  have hj : inT J.ts (i + 1000000) = false := by
    cases hi : inT J.ts (i + 1000000) with
    | false => rfl
    | true =>
      rcases h.tj _ hi with ⟨b, hb', he⟩ | he
      · have := hb b hb'; omega
      · omega
  have hk : inT K.ts (i + 1000000) = false := by
    cases hi : inT K.ts (i + 1000000) with
    | false => rfl
    | true =>
      rcases h.tk _ hi with ⟨b, hb', he⟩ | he
      · have := hb b hb'; omega
      · omega
  have up : ∀ {ts : List (Int × Int × Int × Int)}, (∀ c, inT ts c = true → (∃ b ∈ bs, b.c = c) ∨ (1000000 ≤ c ∧ c < 1000000 + (i : Int))) → ∀ c, inT ts c = true → (∃ b ∈ bs, b.c = c) ∨ (1000000 ≤ c ∧ c < 1000000 + ((i + 1 : Nat) : Int)) := by
    intro ts ht c hc
    rcases ht c hc with h | h
    · exact .inl h
    · exact .inr ⟨h.1, by omega⟩
  have put : ∀ {ts : List (Int × Int × Int × Int)} (p : Int × Int × Int), (∀ c, inT ts c = true → (∃ b ∈ bs, b.c = c) ∨ (1000000 ≤ c ∧ c < 1000000 + (i : Int))) → ∀ c, inT (aput (i + 1000000) p ts) c = true → (∃ b ∈ bs, b.c = c) ∨ (1000000 ≤ c ∧ c < 1000000 + ((i + 1 : Nat) : Int)) := by
    intro ts p ht c hc
    rcases (inT_aput _ _ _ _).1 hc with e | e
    · exact .inr ⟨by omega, by omega⟩
    · exact up ht c e
  have h' : ThiI bs (i + 1) J K := ⟨h.last, h.lo, h.ks, up h.tj, up h.tk⟩
  unfold sayS
  rw [hj, hk, h.last, h.ks]
  simp only [Bool.false_and, Bool.false_eq_true, reduceIte]
  split
  · exact ⟨_, _, _, rfl, rfl, h'⟩
  · split
    · exact ⟨_, _, _, rfl, rfl, h'⟩
    · split
      · exact ⟨_, _, _, rfl, rfl, h'⟩
      · split
        · exact ⟨_, _, _, rfl, rfl, ⟨rfl, h.lo, rfl, put _ h.tj, put _ h.tk⟩⟩
        · exact ⟨_, _, _, rfl, rfl, ⟨rfl, by have := h.lo; simp only; omega, rfl, put _ h.tj, put _ h.tk⟩⟩
end Go.Proofs.Ytiipndbcddgjlaa
