import Derived.Test.YtildlpgekbknmaaC7
import Derived.Test.YtildlpgekbknmaaNm28
set_option linter.all false
set_option linter.unusedSimpArgs false
set_option linter.unusedVariables false
namespace Go.Proofs.Ytildlpgekbknmaa
open Go.Nm

theorem chkI_what (ws : List Wt) : ∀ n i, chkI ws n i = 0 ∨ (50 ≤ chkI ws n i ∧ chkI ws n i ≤ 54)
  | 0, _ => .inl rfl
  | n + 1, i => by
    unfold chkI
    split
    · rename_i h
      unfold writeErr at h ⊢
      split
      · right; omega
      · rename_i h1
        rw [if_neg h1] at h
        split
        · right; omega
        · rename_i h2
          rw [if_neg h2] at h; simp at h
    · split
      · right; omega
      · exact chkI_what ws n (i + 1)
theorem chk_what (ws : List Wt) : chk ws = 0 ∨ (50 ≤ chk ws ∧ chk ws ≤ 54) := by
  unfold chk
  split
  · right; omega
  · split
    · right; omega
    · exact chkI_what _ _ _

set_option maxHeartbeats 8000000 in
set_option maxRecDepth 8000 in
theorem same_law (id start : Int) (acts : List Ac) : CallT Try.prog 4 [.u (.i .u64 id), .u (.i .u64 start), .u (.fz (acts.map arow) none)] [] fun r σ => r = .u (.b true) ∧ σ = [] := by
  have hn := new_ok id
  simp only [clC, ccells, List.nil_append] at hn
  refine callT_ofL 128 [.tmp 6] Try.func4 rfl Try.ntmps4 rfl (Nat.le_of_ble_eq_true rfl) fun c hnt hc0 => ?_
  refine wps_seq fun K1 hK1 => ?_
  refine wps_region (by rw [hnt]; rfl) 0 ?_
  simp only [↓kOps_app, ↓evOps_nil, ↓evOps_cons, go_sem, Int.reduceAdd, Int.reduceBEq, Int.reduceEq, Int.reduceLE, Int.reduceLT, Int.reduceNe, Int.reduceSub, Int.reduceToNat, Nat.reduceAdd, Nat.reduceBEq, Nat.reduceEqDiff, Nat.reduceLT, Nat.reduceLeDiff, Nat.reduceMul, Nat.reduceSub, reduceCtorEq, reduceIte]
  repeat (refine And.intro ?_ ?_; · first | rfl | omega | assumption | (simp; done) | (simp; omega) | (intros; omega) | (intros; simp_all; done) | (intros; simp_all; omega) | (and_intros <;> first | rfl | omega | assumption | (simp; done)))
  refine hK1 _ _ ?_
  refine wps_seq fun K2 hK2 => ?_
  refine wps_region (by rw [hnt]; rfl) 0 ?_
  simp only [↓kOps_app, ↓evOps_nil, ↓evOps_cons, go_sem, Int.reduceAdd, Int.reduceBEq, Int.reduceEq, Int.reduceLE, Int.reduceLT, Int.reduceNe, Int.reduceSub, Int.reduceToNat, Nat.reduceAdd, Nat.reduceBEq, Nat.reduceEqDiff, Nat.reduceLT, Nat.reduceLeDiff, Nat.reduceMul, Nat.reduceSub, reduceCtorEq, reduceIte]
  repeat (refine And.intro ?_ ?_; · first | rfl | omega | assumption | (simp; done) | (simp; omega) | (intros; omega) | (intros; simp_all; done) | (intros; simp_all; omega) | (and_intros <;> first | rfl | omega | assumption | (simp; done)))
  refine callT_new hn (by simp only [go_sem, reduceIte, Nat.reduceEqDiff, Nat.reduceAdd, Nat.reduceLT]) ?_
  simp only [retSV, SV.mv, mvs, subL, List.map_nil, List.map_cons, SObj.mv, posOf, back, List.length_cons, List.length_nil, List.getElem?_cons_zero, List.getElem?_cons_succ, Option.map_some, Nat.reduceAdd, Nat.reduceLT, Nat.zero_add, Nat.lt_add_one, List.getD_cons_zero, List.getD_cons_succ, reduceIte, Nat.reduceEqDiff, Env.get, Env.put, and_true, true_and, implies_true, Nat.not_lt_zero, Nat.sub_zero]
  simp only [↓kOps_app, ↓evOps_nil, ↓evOps_cons, go_sem, Int.reduceAdd, Int.reduceBEq, Int.reduceEq, Int.reduceLE, Int.reduceLT, Int.reduceNe, Int.reduceSub, Int.reduceToNat, Nat.reduceAdd, Nat.reduceBEq, Nat.reduceEqDiff, Nat.reduceLT, Nat.reduceLeDiff, Nat.reduceMul, Nat.reduceSub, reduceCtorEq, reduceIte]
  repeat (refine And.intro ?_ ?_; · first | rfl | omega | assumption | (simp; done) | (simp; omega) | (intros; omega) | (intros; simp_all; done) | (intros; simp_all; omega) | (and_intros <;> first | rfl | omega | assumption | (simp; done)))
  refine hK2 _ _ ?_
  refine wps_seq fun K3 hK3 => ?_
  refine wps_seq fun K4 hK4 => ?_
  refine wps_region (by rw [hnt]; rfl) 0 ?_
  simp only [↓kOps_app, ↓evOps_nil, ↓evOps_cons, go_sem, Int.reduceAdd, Int.reduceBEq, Int.reduceEq, Int.reduceLE, Int.reduceLT, Int.reduceNe, Int.reduceSub, Int.reduceToNat, Nat.reduceAdd, Nat.reduceBEq, Nat.reduceEqDiff, Nat.reduceLT, Nat.reduceLeDiff, Nat.reduceMul, Nat.reduceSub, reduceCtorEq, reduceIte]
  repeat (refine And.intro ?_ ?_; · first | rfl | omega | assumption | (simp; done) | (simp; omega) | (intros; omega) | (intros; simp_all; done) | (intros; simp_all; omega) | (and_intros <;> first | rfl | omega | assumption | (simp; done)))
  refine callT_new awake_ok (by simp only [go_sem, reduceIte, Nat.reduceEqDiff, Nat.reduceAdd, Nat.reduceLT]) ?_
  simp only [retSV, SV.mv, mvs, subL, List.map_nil, List.map_cons, SObj.mv, posOf, back, List.length_cons, List.length_nil, List.getElem?_cons_zero, List.getElem?_cons_succ, Option.map_some, Nat.reduceAdd, Nat.reduceLT, Nat.zero_add, Nat.lt_add_one, List.getD_cons_zero, List.getD_cons_succ, reduceIte, Nat.reduceEqDiff, Env.get, Env.put, and_true, true_and, implies_true]
  simp only [↓kOps_app, ↓evOps_nil, ↓evOps_cons, go_sem, Int.reduceAdd, Int.reduceBEq, Int.reduceEq, Int.reduceLE, Int.reduceLT, Int.reduceNe, Int.reduceSub, Int.reduceToNat, Nat.reduceAdd, Nat.reduceBEq, Nat.reduceEqDiff, Nat.reduceLT, Nat.reduceLeDiff, Nat.reduceMul, Nat.reduceSub, reduceCtorEq, reduceIte]
  repeat (refine And.intro ?_ ?_; · first | rfl | omega | assumption | (simp; done) | (simp; omega) | (intros; omega) | (intros; simp_all; done) | (intros; simp_all; omega) | (and_intros <;> first | rfl | omega | assumption | (simp; done)))
  refine hK4 _ _ ?_
  refine wps_cond (b := _) rfl (fun h1 => ?_) (fun h1 => ?_)
  · exact absurd h1 (by simp)
  · refine wps_skip ?_
    refine hK3 _ _ ?_
    refine wps_seq fun K5 hK5 => ?_
    refine wps_region (by rw [hnt]; rfl) 1 ?_
    simp only [↓kOps_app, ↓evOps_nil, ↓evOps_cons, go_sem, Int.reduceAdd, Int.reduceBEq, Int.reduceEq, Int.reduceLE, Int.reduceLT, Int.reduceNe, Int.reduceSub, Int.reduceToNat, Nat.reduceAdd, Nat.reduceBEq, Nat.reduceEqDiff, Nat.reduceLT, Nat.reduceLeDiff, Nat.reduceMul, Nat.reduceSub, reduceCtorEq, reduceIte]
    repeat (refine And.intro ?_ ?_; · first | rfl | omega | assumption | (simp; done) | (simp; omega) | (intros; omega) | (intros; simp_all; done) | (intros; simp_all; omega) | (and_intros <;> first | rfl | omega | assumption | (simp; done)))
    refine hK5 _ _ ?_
    refine wps_seq fun K6 hK6 => ?_
    refine wps_seq fun K7 hK7 => ?_
    refine wps_region (by rw [hnt]; rfl) 0 ?_
    simp only [↓kOps_app, ↓evOps_nil, ↓evOps_cons, go_sem, Int.reduceAdd, Int.reduceBEq, Int.reduceEq, Int.reduceLE, Int.reduceLT, Int.reduceNe, Int.reduceSub, Int.reduceToNat, Nat.reduceAdd, Nat.reduceBEq, Nat.reduceEqDiff, Nat.reduceLT, Nat.reduceLeDiff, Nat.reduceMul, Nat.reduceSub, reduceCtorEq, reduceIte]
    repeat (refine And.intro ?_ ?_; · first | rfl | omega | assumption | (simp; done) | (simp; omega) | (intros; omega) | (intros; simp_all; done) | (intros; simp_all; omega) | (and_intros <;> first | rfl | omega | assumption | (simp; done)))
    refine hK7 _ _ ?_
    refine wps_blk fun K8 hK8 => ?_
    refine wps_loop (fun k e σ => ∃ (i : Nat) (u : Cl), k = acts.length - i ∧ i ≤ acts.length ∧ i ≤ 60 ∧ (1 ≤ u.next ∧ u.next ≤ i + 1) ∧
        ((∃ (nc nr ns : Int) (nw : List Wt) (nq : Option Nat), e = [(1, .u (.i .u64 start)), (2, .u (.fz (acts.map arow) none)), (7, .p 1 0), (8, .p 0 0), (9, .u (.b false)), (10, .u (.i .i64 i))] ∧ σ = [.cells [.u (.i .u64 nc), .u (.i .u64 nr), .u (.i .u64 ns), .u (.fz (nw.map wrow) nq)], .cells (ccells u (.u .np))]) ∨
         ∃ o : Op, (1 ≤ o.tries ∧ o.tries ≤ i) ∧ o.ws.length ≤ 10 ∧ e = [(1, .u (.i .u64 start)), (2, .u (.fz (acts.map arow) none)), (7, .p 1 0), (8, .p 0 0), (9, .u (.b true)), (10, .u (.i .i64 i))] ∧ σ = [.cells [.u (.i .u64 u.id), .u (.i .u64 o.r), .u (.i .u64 o.s), .u (.fz (o.ws.map wrow) none)], .cells (ccells u (.p 2 0)), .cells (ocells u o)]))
      (e0 := [(1, .u (.i .u64 start)), (2, .u (.fz (acts.map arow) none)), (7, .p 1 0), (8, .p 0 0), (9, .u (.b false)), (10, .u (.i .i64 0))]) (σ0 := [.cells [.u (.i .u64 0), .u (.i .u64 0), .u (.i .u64 0), .u (.fz (([] : List Wt).map wrow) (some 0))], .cells (ccells ⟨id, 1, 0, 0, 0, 0⟩ (.u .np))])
      (entL hc0 [some 1, some 0] rfl rfl (by simp only [go_sem, reduceIte, Nat.reduceEqDiff, Nat.reduceAdd, Nat.reduceLT]) (by simp only [retSV, SV.mv, mvs, subL, List.map_nil, List.map_cons, SObj.mv, posOf, back, List.length_cons, List.length_nil, List.getElem?_cons_zero, List.getElem?_cons_succ, Option.map_some, Nat.reduceAdd, Nat.reduceLT, Nat.zero_add, Nat.lt_add_one, List.getD_cons_zero, List.getD_cons_succ, reduceIte, Nat.reduceEqDiff, Env.get, Env.put, and_true, true_and, implies_true, ccells])) ⟨0, ⟨id, 1, 0, 0, 0, 0⟩, rfl, Nat.zero_le _, by omega, ⟨by simp, by simp⟩, .inl ⟨0, 0, 0, [], some 0, rfl, rfl⟩⟩ fun KL k e1 σ1 hI hKL => ?_
    obtain ⟨i, u, rfl, hi, hi60, hnx, hσ⟩ := hI
    rcases hσ with ⟨nc, nr, ns, nw, nq, he, hσ⟩ | ⟨o, ho1, ho2, he, hσ⟩ <;> subst he hσ
    · have htr := triesC_ok u
      simp only [clC, ccells] at htr
      unfold ccells
      refine wps_seq fun K9 hK9 => ?_
      refine wps_seq fun K10 hK10 => ?_
      refine wps_region (by rw [hnt]; rfl) 0 ?_
      simp only [↓kOps_app, ↓evOps_nil, ↓evOps_cons, go_sem, Int.reduceAdd, Int.reduceBEq, Int.reduceEq, Int.reduceLE, Int.reduceLT, Int.reduceNe, Int.reduceSub, Int.reduceToNat, Nat.reduceAdd, Nat.reduceBEq, Nat.reduceEqDiff, Nat.reduceLT, Nat.reduceLeDiff, Nat.reduceMul, Nat.reduceSub, reduceCtorEq, reduceIte]
      repeat (refine And.intro ?_ ?_; · first | rfl | omega | assumption | (simp; done) | (simp; omega) | (intros; omega) | (intros; simp_all; done) | (intros; simp_all; omega) | (and_intros <;> first | rfl | omega | assumption | (simp; done)))
      refine hK10 _ _ ?_
      refine wps_cond (b := _) rfl (fun h2 => ?_) (fun h2 => ?_)
      · simp at h2
        have hel := arow_at h2.1
        have hw1 : IntKind.i64.wrap ((i : Int) + 1) = ((i + 1 : Nat) : Int) := by rw [wrap64 (by omega) (by omega)]; omega
        have hrow := wrow_len (ws := (acat acts i).ws)
        refine wps_skip ?_
        refine hK9 _ _ ?_
        refine wps_seq fun K11 hK11 => ?_
        refine wps_blk fun K12 hK12 => ?_
        refine wps_seq fun K13 hK13 => ?_
        refine wps_region (by rw [hnt]; rfl) 1 ?_
        simp only [↓kOps_app, ↓evOps_nil, ↓evOps_cons, go_sem, Int.reduceAdd, Int.reduceBEq, Int.reduceEq, Int.reduceLE, Int.reduceLT, Int.reduceNe, Int.reduceSub, Int.reduceToNat, Nat.reduceAdd, Nat.reduceBEq, Nat.reduceEqDiff, Nat.reduceLT, Nat.reduceLeDiff, Nat.reduceMul, Nat.reduceSub, reduceCtorEq, reduceIte, hel]
        repeat (refine And.intro ?_ ?_; · first | rfl | omega | assumption | (simp; done) | (simp; omega) | (intros; omega) | (intros; simp_all; done) | (intros; simp_all; omega) | (and_intros <;> first | rfl | omega | assumption | (simp; done)))
        refine hK13 _ _ ?_
        refine wps_seq fun K14 hK14 => ?_
        have hJ3 : ∀ ws : List Wt, ws.length ≤ 10 → ∀ e' σ', Ent c e' σ' [(1, .u (.i .u64 start)), (2, .u (.fz (acts.map arow) none)), (7, .p 1 0), (8, .p 0 0), (9, .u (.b false)), (10, .u (.i .i64 i)), (11, .p 2 0)] [.cells [.u (.i .u64 nc), .u (.i .u64 nr), .u (.i .u64 ns), .u (.fz (nw.map wrow) nq)], .cells [.u (.i .u64 u.id), .u (.i .u64 u.next), .u .np, .u (.i .u64 u.lr), .u (.i .u64 u.lat), .u (.i .i64 u.lerr), .u (.i .u64 u.saw)], .cells [.u (.i .i64 (acat acts i).k), .u (.i .u64 (acat acts i).s), .u (.i .u64 (acat acts i).r), .u (.fz (ws.map wrow) none), .u (.i .u64 (acat acts i).at_), .u (.i .i64 (acat acts i).e)]] → K14 e' σ' := by
          intro ws hws e' σ' hE
          refine hK14 _ _ (wps_ent hE ?_)
          refine wps_seq fun K15 hK15 => ?_
          refine wps_region (by rw [hnt]; rfl) 0 ?_
          simp only [↓kOps_app, ↓evOps_nil, ↓evOps_cons, go_sem, Int.reduceAdd, Int.reduceBEq, Int.reduceEq, Int.reduceLE, Int.reduceLT, Int.reduceNe, Int.reduceSub, Int.reduceToNat, Nat.reduceAdd, Nat.reduceBEq, Nat.reduceEqDiff, Nat.reduceLT, Nat.reduceLeDiff, Nat.reduceMul, Nat.reduceSub, reduceCtorEq, reduceIte]
          repeat (refine And.intro ?_ ?_; · first | rfl | omega | assumption | (simp; done) | (simp; omega) | (intros; omega) | (intros; simp_all; done) | (intros; simp_all; omega) | (and_intros <;> first | rfl | omega | assumption | (simp; done)))
          refine callT_at [1] [_] htr rfl rfl ⟨rfl, trivial⟩ (by simp only [go_sem, reduceIte, Nat.reduceEqDiff, Nat.reduceAdd, Nat.reduceLT]) (by simp only [go_sem, reduceIte, Nat.reduceEqDiff, Nat.reduceAdd, Nat.reduceLT]) rfl (fun N => by (try simp only [go_sem, reduceIte, Nat.reduceEqDiff, Nat.reduceAdd, Nat.reduceLT]); try rfl) (fun N => by (try simp only [go_sem, reduceIte, Nat.reduceEqDiff, Nat.reduceAdd, Nat.reduceLT]); try rfl) ?_
          simp only [↓kOps_app, ↓evOps_nil, ↓evOps_cons, go_sem, Int.reduceAdd, Int.reduceBEq, Int.reduceEq, Int.reduceLE, Int.reduceLT, Int.reduceNe, Int.reduceSub, Int.reduceToNat, Nat.reduceAdd, Nat.reduceBEq, Nat.reduceEqDiff, Nat.reduceLT, Nat.reduceLeDiff, Nat.reduceMul, Nat.reduceSub, reduceCtorEq, reduceIte]
          repeat (refine And.intro ?_ ?_; · first | rfl | omega | assumption | (simp; done) | (simp; omega) | (intros; omega) | (intros; simp_all; done) | (intros; simp_all; omega) | (and_intros <;> first | rfl | omega | assumption | (simp; done)))
          refine hK15 _ _ ?_
          refine wps_seq fun K16 hK16 => ?_
          refine wps_region (by rw [hnt]; rfl) 0 ?_
          simp only [↓kOps_app, ↓evOps_nil, ↓evOps_cons, go_sem, Int.reduceAdd, Int.reduceBEq, Int.reduceEq, Int.reduceLE, Int.reduceLT, Int.reduceNe, Int.reduceSub, Int.reduceToNat, Nat.reduceAdd, Nat.reduceBEq, Nat.reduceEqDiff, Nat.reduceLT, Nat.reduceLeDiff, Nat.reduceMul, Nat.reduceSub, reduceCtorEq, reduceIte]
          repeat (refine And.intro ?_ ?_; · first | rfl | omega | assumption | (simp; done) | (simp; omega) | (intros; omega) | (intros; simp_all; done) | (intros; simp_all; omega) | (and_intros <;> first | rfl | omega | assumption | (simp; done)))
          refine hK16 _ _ ?_
          refine wps_blk fun K17 hK17 => ?_
          refine wps_seq fun K18 hK18 => ?_
          refine wps_region (by rw [hnt]; rfl) 0 ?_
          simp only [↓kOps_app, ↓evOps_nil, ↓evOps_cons, go_sem, Int.reduceAdd, Int.reduceBEq, Int.reduceEq, Int.reduceLE, Int.reduceLT, Int.reduceNe, Int.reduceSub, Int.reduceToNat, Nat.reduceAdd, Nat.reduceBEq, Nat.reduceEqDiff, Nat.reduceLT, Nat.reduceLeDiff, Nat.reduceMul, Nat.reduceSub, reduceCtorEq, reduceIte]
          repeat (refine And.intro ?_ ?_; · first | rfl | omega | assumption | (simp; done) | (simp; omega) | (intros; omega) | (intros; simp_all; done) | (intros; simp_all; omega) | (and_intros <;> first | rfl | omega | assumption | (simp; done)))
          refine hK18 _ _ ?_
          refine wps_cond (b := _) rfl (fun h4 => ?_) (fun h4 => ?_)
          · refine wps_seq fun K19 hK19 => ?_
            by_cases hk : chk ws = 0
            · have hp := startG_ok u start ws none (roomy10 hws) hk ⟨by omega, by omega⟩
              have htr' := triesO_ok ⟨u.id, u.next + 1, u.lr, u.lat, u.lerr, u.saw⟩ ⟨u.next, start, ws, 1⟩
              simp only [clC, clO, ccells, ocells, bcells] at hp htr'
              refine wps_region (by rw [hnt]; rfl) 1 ?_
              simp only [↓kOps_app, ↓evOps_nil, ↓evOps_cons, go_sem, Int.reduceAdd, Int.reduceBEq, Int.reduceEq, Int.reduceLE, Int.reduceLT, Int.reduceNe, Int.reduceSub, Int.reduceToNat, Nat.reduceAdd, Nat.reduceBEq, Nat.reduceEqDiff, Nat.reduceLT, Nat.reduceLeDiff, Nat.reduceMul, Nat.reduceSub, reduceCtorEq, reduceIte]
              repeat (refine And.intro ?_ ?_; · first | rfl | omega | assumption | (simp; done) | (simp; omega) | (intros; omega) | (intros; simp_all; done) | (intros; simp_all; omega) | (and_intros <;> first | rfl | omega | assumption | (simp; done)))
              refine callT_atN [1] [_] hp rfl rfl ⟨rfl, trivial⟩ (by simp only [go_sem, reduceIte, Nat.reduceEqDiff, Nat.reduceAdd, Nat.reduceLT]) (by simp only [go_sem, reduceIte, Nat.reduceEqDiff, Nat.reduceAdd, Nat.reduceLT]) rfl ?_
              simp only [retSV, SV.mv, mvs, subL, List.map_nil, List.map_cons, SObj.mv, posOf, back, List.length_cons, List.length_nil, List.getElem?_cons_zero, List.getElem?_cons_succ, Option.map_some, Nat.reduceAdd, Nat.reduceLT, Nat.zero_add, Nat.lt_add_one, List.getD_cons_zero, List.getD_cons_succ, reduceIte, Nat.reduceEqDiff, Env.get, Env.put, and_true, true_and, implies_true, Nat.reduceSub, Nat.reduceLeDiff, setAll, List.set, List.cons_append, List.nil_append, List.zip_cons_cons, List.zip_nil_left]
              simp only [↓kOps_app, ↓evOps_nil, ↓evOps_cons, go_sem, Int.reduceAdd, Int.reduceBEq, Int.reduceEq, Int.reduceLE, Int.reduceLT, Int.reduceNe, Int.reduceSub, Int.reduceToNat, Nat.reduceAdd, Nat.reduceBEq, Nat.reduceEqDiff, Nat.reduceLT, Nat.reduceLeDiff, Nat.reduceMul, Nat.reduceSub, reduceCtorEq, reduceIte]
              repeat (refine And.intro ?_ ?_; · first | rfl | omega | assumption | (simp; done) | (simp; omega) | (intros; omega) | (intros; simp_all; done) | (intros; simp_all; omega) | (and_intros <;> first | rfl | omega | assumption | (simp; done)))
              refine hK19 _ _ ?_
              refine wps_seq fun K20 hK20 => ?_
              refine wps_seq fun K21 hK21 => ?_
              refine wps_keep [1, 2, 7, 8, 9, 10, 13, 14] (by simp only [keep_cons, keep_nil, keep_done, List.contains_lit_cons, List.contains_lit_nil, List.erase_lit_cons, List.erase_lit_nil, reduceIte, Nat.reduceEqDiff, Bool.false_eq_true]; rfl) ?_
              refine wps_region (by rw [hnt]; rfl) 0 ?_
              simp only [↓kOps_app, ↓evOps_nil, ↓evOps_cons, go_sem, Int.reduceAdd, Int.reduceBEq, Int.reduceEq, Int.reduceLE, Int.reduceLT, Int.reduceNe, Int.reduceSub, Int.reduceToNat, Nat.reduceAdd, Nat.reduceBEq, Nat.reduceEqDiff, Nat.reduceLT, Nat.reduceLeDiff, Nat.reduceMul, Nat.reduceSub, reduceCtorEq, reduceIte]
              repeat (refine And.intro ?_ ?_; · first | rfl | omega | assumption | (simp; done) | (simp; omega) | (intros; omega) | (intros; simp_all; done) | (intros; simp_all; omega) | (and_intros <;> first | rfl | omega | assumption | (simp; done)))
              refine hK21 _ _ ?_
              refine wps_cond (b := _) rfl (fun h5 => ?_) (fun h5 => ?_)
              · exact absurd h5 (by simp)
              · refine wps_skip ?_
                refine hK20 _ _ ?_
                refine wps_seq fun K22 hK22 => ?_
                refine wps_region (by rw [hnt]; rfl) 0 ?_
                simp only [↓kOps_app, ↓evOps_nil, ↓evOps_cons, go_sem, Int.reduceAdd, Int.reduceBEq, Int.reduceEq, Int.reduceLE, Int.reduceLT, Int.reduceNe, Int.reduceSub, Int.reduceToNat, Nat.reduceAdd, Nat.reduceBEq, Nat.reduceEqDiff, Nat.reduceLT, Nat.reduceLeDiff, Nat.reduceMul, Nat.reduceSub, reduceCtorEq, reduceIte]
                repeat (refine And.intro ?_ ?_; · first | rfl | omega | assumption | (simp; done) | (simp; omega) | (intros; omega) | (intros; simp_all; done) | (intros; simp_all; omega) | (and_intros <;> first | rfl | omega | assumption | (simp; done)))
                refine hK22 _ _ ?_
                refine wps_cond (b := _) rfl (fun h6 => ?_) (fun h6 => ?_)
                · refine wps_seq fun K23 hK23 => ?_
                  refine wps_region (by rw [hnt]; rfl) 0 ?_
                  simp only [↓kOps_app, ↓evOps_nil, ↓evOps_cons, go_sem, Int.reduceAdd, Int.reduceBEq, Int.reduceEq, Int.reduceLE, Int.reduceLT, Int.reduceNe, Int.reduceSub, Int.reduceToNat, Nat.reduceAdd, Nat.reduceBEq, Nat.reduceEqDiff, Nat.reduceLT, Nat.reduceLeDiff, Nat.reduceMul, Nat.reduceSub, reduceCtorEq, reduceIte]
                  repeat (refine And.intro ?_ ?_; · first | rfl | omega | assumption | (simp; done) | (simp; omega) | (intros; omega) | (intros; simp_all; done) | (intros; simp_all; omega) | (and_intros <;> first | rfl | omega | assumption | (simp; done)))
                  refine hK23 _ _ ?_
                  refine wps_seq fun K24 hK24 => ?_
                  refine wps_region (by rw [hnt]; rfl) 0 ?_
                  simp only [↓kOps_app, ↓evOps_nil, ↓evOps_cons, go_sem, Int.reduceAdd, Int.reduceBEq, Int.reduceEq, Int.reduceLE, Int.reduceLT, Int.reduceNe, Int.reduceSub, Int.reduceToNat, Nat.reduceAdd, Nat.reduceBEq, Nat.reduceEqDiff, Nat.reduceLT, Nat.reduceLeDiff, Nat.reduceMul, Nat.reduceSub, reduceCtorEq, reduceIte]
                  repeat (refine And.intro ?_ ?_; · first | rfl | omega | assumption | (simp; done) | (simp; omega) | (intros; omega) | (intros; simp_all; done) | (intros; simp_all; omega) | (and_intros <;> first | rfl | omega | assumption | (simp; done)))
                  refine callT_at [1, 4] [_, _] htr' rfl rfl ⟨rfl, rfl, trivial⟩ (by simp only [go_sem, reduceIte, Nat.reduceEqDiff, Nat.reduceAdd, Nat.reduceLT]) (by simp only [go_sem, reduceIte, Nat.reduceEqDiff, Nat.reduceAdd, Nat.reduceLT]) rfl (fun N => by (try simp only [go_sem, reduceIte, Nat.reduceEqDiff, Nat.reduceAdd, Nat.reduceLT]); try rfl) (fun N => by (try simp only [go_sem, reduceIte, Nat.reduceEqDiff, Nat.reduceAdd, Nat.reduceLT]); try rfl) ?_
                  simp only [↓kOps_app, ↓evOps_nil, ↓evOps_cons, go_sem, Int.reduceAdd, Int.reduceBEq, Int.reduceEq, Int.reduceLE, Int.reduceLT, Int.reduceNe, Int.reduceSub, Int.reduceToNat, Nat.reduceAdd, Nat.reduceBEq, Nat.reduceEqDiff, Nat.reduceLT, Nat.reduceLeDiff, Nat.reduceMul, Nat.reduceSub, reduceCtorEq, reduceIte]
                  repeat (refine And.intro ?_ ?_; · first | rfl | omega | assumption | (simp; done) | (simp; omega) | (intros; omega) | (intros; simp_all; done) | (intros; simp_all; omega) | (and_intros <;> first | rfl | omega | assumption | (simp; done)))
                  refine hK24 _ _ ?_
                  refine wps_cond (b := _) rfl (fun h7 => ?_) (fun h7 => ?_)
                  · exact absurd h7 (by simp)
                  · refine wps_skip ?_
                    refine hK17 _ _ ?_
                    refine hK12 _ _ ?_
                    refine hK11 _ _ ?_
                    refine wps_keep [1, 2, 7, 8, 9, 10] (by simp only [keep_cons, keep_nil, keep_done, List.contains_lit_cons, List.contains_lit_nil, List.erase_lit_cons, List.erase_lit_nil, reduceIte, Nat.reduceEqDiff, Bool.false_eq_true]; rfl) ?_
                    refine wps_region (by rw [hnt]; rfl) 0 ?_
                    simp only [↓kOps_app, ↓evOps_nil, ↓evOps_cons, go_sem, Int.reduceAdd, Int.reduceBEq, Int.reduceEq, Int.reduceLE, Int.reduceLT, Int.reduceNe, Int.reduceSub, Int.reduceToNat, Nat.reduceAdd, Nat.reduceBEq, Nat.reduceEqDiff, Nat.reduceLT, Nat.reduceLeDiff, Nat.reduceMul, Nat.reduceSub, reduceCtorEq, reduceIte, hw1]
                    repeat (refine And.intro ?_ ?_; · first | rfl | omega | assumption | (simp; done) | (simp; omega) | (intros; omega) | (intros; simp_all; done) | (intros; simp_all; omega) | (and_intros <;> first | rfl | omega | assumption | (simp; done)))
                    exact hKL _ _ (acts.length - (i + 1)) _ _ (entL hc0 [some 0, some 1, some 4] rfl rfl (by simp only [go_sem, reduceIte, Nat.reduceEqDiff, Nat.reduceAdd, Nat.reduceLT]) (by simp only [retSV, SV.mv, mvs, subL, List.map_nil, List.map_cons, SObj.mv, posOf, back, List.length_cons, List.length_nil, List.getElem?_cons_zero, List.getElem?_cons_succ, Option.map_some, Nat.reduceAdd, Nat.reduceLT, Nat.zero_add, Nat.lt_add_one, List.getD_cons_zero, List.getD_cons_succ, reduceIte, Nat.reduceEqDiff, Env.get, Env.put, and_true, true_and, implies_true]; rfl)) ⟨i + 1, ⟨u.id, u.next + 1, u.lr, u.lat, u.lerr, u.saw⟩, rfl, by omega, by omega, ⟨by simp only; omega, by simp only; omega⟩, .inr ⟨⟨u.next, start, ws, 1⟩, ⟨by simp, by simp; omega⟩, hws, rfl, rfl⟩⟩ (by omega)
                · exact absurd h6 (by simp)
            · have hp := startB_ok u start ws none (roomy10 hws) hk
              have hce : (chk ws == 250) = false := by
                have := chk_what ws
                simp; omega
              simp only [clC, ccells, bcells] at hp
              refine wps_region (by rw [hnt]; rfl) 1 ?_
              simp only [↓kOps_app, ↓evOps_nil, ↓evOps_cons, go_sem, Int.reduceAdd, Int.reduceBEq, Int.reduceEq, Int.reduceLE, Int.reduceLT, Int.reduceNe, Int.reduceSub, Int.reduceToNat, Nat.reduceAdd, Nat.reduceBEq, Nat.reduceEqDiff, Nat.reduceLT, Nat.reduceLeDiff, Nat.reduceMul, Nat.reduceSub, reduceCtorEq, reduceIte]
              repeat (refine And.intro ?_ ?_; · first | rfl | omega | assumption | (simp; done) | (simp; omega) | (intros; omega) | (intros; simp_all; done) | (intros; simp_all; omega) | (and_intros <;> first | rfl | omega | assumption | (simp; done)))
              refine callT_at [1] [_] hp rfl rfl ⟨rfl, trivial⟩ (by simp only [go_sem, reduceIte, Nat.reduceEqDiff, Nat.reduceAdd, Nat.reduceLT]) (by simp only [go_sem, reduceIte, Nat.reduceEqDiff, Nat.reduceAdd, Nat.reduceLT]) rfl (fun N => by (try simp only [go_sem, reduceIte, Nat.reduceEqDiff, Nat.reduceAdd, Nat.reduceLT]); try rfl) (fun N => by (try simp only [go_sem, reduceIte, Nat.reduceEqDiff, Nat.reduceAdd, Nat.reduceLT]); try rfl) ?_
              simp only [↓kOps_app, ↓evOps_nil, ↓evOps_cons, go_sem, Int.reduceAdd, Int.reduceBEq, Int.reduceEq, Int.reduceLE, Int.reduceLT, Int.reduceNe, Int.reduceSub, Int.reduceToNat, Nat.reduceAdd, Nat.reduceBEq, Nat.reduceEqDiff, Nat.reduceLT, Nat.reduceLeDiff, Nat.reduceMul, Nat.reduceSub, reduceCtorEq, reduceIte]
              repeat (refine And.intro ?_ ?_; · first | rfl | omega | assumption | (simp; done) | (simp; omega) | (intros; omega) | (intros; simp_all; done) | (intros; simp_all; omega) | (and_intros <;> first | rfl | omega | assumption | (simp; done)))
              refine hK19 _ _ ?_
              refine wps_seq fun K25 hK25 => ?_
              refine wps_seq fun K26 hK26 => ?_
              refine wps_keep [1, 2, 7, 8, 9, 10, 13, 14] (by simp only [keep_cons, keep_nil, keep_done, List.contains_lit_cons, List.contains_lit_nil, List.erase_lit_cons, List.erase_lit_nil, reduceIte, Nat.reduceEqDiff, Bool.false_eq_true]; rfl) ?_
              refine wps_region (by rw [hnt]; rfl) 0 ?_
              simp only [↓kOps_app, ↓evOps_nil, ↓evOps_cons, go_sem, Int.reduceAdd, Int.reduceBEq, Int.reduceEq, Int.reduceLE, Int.reduceLT, Int.reduceNe, Int.reduceSub, Int.reduceToNat, Nat.reduceAdd, Nat.reduceBEq, Nat.reduceEqDiff, Nat.reduceLT, Nat.reduceLeDiff, Nat.reduceMul, Nat.reduceSub, reduceCtorEq, reduceIte, hce]
              repeat (refine And.intro ?_ ?_; · first | rfl | omega | assumption | (simp; done) | (simp; omega) | (intros; omega) | (intros; simp_all; done) | (intros; simp_all; omega) | (and_intros <;> first | rfl | omega | assumption | (simp; done)))
              refine hK26 _ _ ?_
              refine wps_cond (b := _) rfl (fun h5 => ?_) (fun h5 => ?_)
              · exact absurd h5 (by simp)
              · refine wps_skip ?_
                refine hK25 _ _ ?_
                refine wps_seq fun K27 hK27 => ?_
                refine wps_region (by rw [hnt]; rfl) 0 ?_
                simp only [↓kOps_app, ↓evOps_nil, ↓evOps_cons, go_sem, Int.reduceAdd, Int.reduceBEq, Int.reduceEq, Int.reduceLE, Int.reduceLT, Int.reduceNe, Int.reduceSub, Int.reduceToNat, Nat.reduceAdd, Nat.reduceBEq, Nat.reduceEqDiff, Nat.reduceLT, Nat.reduceLeDiff, Nat.reduceMul, Nat.reduceSub, reduceCtorEq, reduceIte]
                repeat (refine And.intro ?_ ?_; · first | rfl | omega | assumption | (simp; done) | (simp; omega) | (intros; omega) | (intros; simp_all; done) | (intros; simp_all; omega) | (and_intros <;> first | rfl | omega | assumption | (simp; done)))
                refine hK27 _ _ ?_
                refine wps_cond (b := _) rfl (fun h6 => ?_) (fun h6 => ?_)
                · exact absurd h6 (by simpa using hk)
                · refine wps_skip ?_
                  refine hK17 _ _ ?_
                  refine hK12 _ _ ?_
                  refine hK11 _ _ ?_
                  refine wps_region (by rw [hnt]; rfl) 0 ?_
                  simp only [↓kOps_app, ↓evOps_nil, ↓evOps_cons, go_sem, Int.reduceAdd, Int.reduceBEq, Int.reduceEq, Int.reduceLE, Int.reduceLT, Int.reduceNe, Int.reduceSub, Int.reduceToNat, Nat.reduceAdd, Nat.reduceBEq, Nat.reduceEqDiff, Nat.reduceLT, Nat.reduceLeDiff, Nat.reduceMul, Nat.reduceSub, reduceCtorEq, reduceIte, hw1]
                  repeat (refine And.intro ?_ ?_; · first | rfl | omega | assumption | (simp; done) | (simp; omega) | (intros; omega) | (intros; simp_all; done) | (intros; simp_all; omega) | (and_intros <;> first | rfl | omega | assumption | (simp; done)))
                  exact hKL _ _ (acts.length - (i + 1)) _ _ (entL hc0 [some 0, some 1] rfl rfl (by simp only [go_sem, reduceIte, Nat.reduceEqDiff, Nat.reduceAdd, Nat.reduceLT]) (by simp only [retSV, SV.mv, mvs, subL, List.map_nil, List.map_cons, SObj.mv, posOf, back, List.length_cons, List.length_nil, List.getElem?_cons_zero, List.getElem?_cons_succ, Option.map_some, Nat.reduceAdd, Nat.reduceLT, Nat.zero_add, Nat.lt_add_one, List.getD_cons_zero, List.getD_cons_succ, reduceIte, Nat.reduceEqDiff, Env.get, Env.put, and_true, true_and, implies_true]; rfl)) ⟨i + 1, u, rfl, by omega, by omega, ⟨by omega, by omega⟩, .inl ⟨_, _, _, _, _, rfl, rfl⟩⟩ (by omega)
          · refine wps_seq fun K28 hK28 => ?_
            refine wps_region (by rw [hnt]; rfl) 0 ?_
            simp only [↓kOps_app, ↓evOps_nil, ↓evOps_cons, go_sem, Int.reduceAdd, Int.reduceBEq, Int.reduceEq, Int.reduceLE, Int.reduceLT, Int.reduceNe, Int.reduceSub, Int.reduceToNat, Nat.reduceAdd, Nat.reduceBEq, Nat.reduceEqDiff, Nat.reduceLT, Nat.reduceLeDiff, Nat.reduceMul, Nat.reduceSub, reduceCtorEq, reduceIte]
            repeat (refine And.intro ?_ ?_; · first | rfl | omega | assumption | (simp; done) | (simp; omega) | (intros; omega) | (intros; simp_all; done) | (intros; simp_all; omega) | (and_intros <;> first | rfl | omega | assumption | (simp; done)))
            refine hK28 _ _ ?_
            refine wps_cond (b := _) rfl (fun h8 => ?_) (fun h8 => ?_)
            · have hp := againC_ok u
              simp only [clC, ccells, bcells] at hp
              refine wps_seq fun K29 hK29 => ?_
              refine wps_region (by rw [hnt]; rfl) 1 ?_
              simp only [↓kOps_app, ↓evOps_nil, ↓evOps_cons, go_sem, Int.reduceAdd, Int.reduceBEq, Int.reduceEq, Int.reduceLE, Int.reduceLT, Int.reduceNe, Int.reduceSub, Int.reduceToNat, Nat.reduceAdd, Nat.reduceBEq, Nat.reduceEqDiff, Nat.reduceLT, Nat.reduceLeDiff, Nat.reduceMul, Nat.reduceSub, reduceCtorEq, reduceIte]
              repeat (refine And.intro ?_ ?_; · first | rfl | omega | assumption | (simp; done) | (simp; omega) | (intros; omega) | (intros; simp_all; done) | (intros; simp_all; omega) | (and_intros <;> first | rfl | omega | assumption | (simp; done)))
              refine callT_at [1] [_] hp rfl rfl ⟨rfl, trivial⟩ (by simp only [go_sem, reduceIte, Nat.reduceEqDiff, Nat.reduceAdd, Nat.reduceLT]) (by simp only [go_sem, reduceIte, Nat.reduceEqDiff, Nat.reduceAdd, Nat.reduceLT]) rfl (fun N => by (try simp only [go_sem, reduceIte, Nat.reduceEqDiff, Nat.reduceAdd, Nat.reduceLT]); try rfl) (fun N => by (try simp only [go_sem, reduceIte, Nat.reduceEqDiff, Nat.reduceAdd, Nat.reduceLT]); try rfl) ?_
              simp only [↓kOps_app, ↓evOps_nil, ↓evOps_cons, go_sem, Int.reduceAdd, Int.reduceBEq, Int.reduceEq, Int.reduceLE, Int.reduceLT, Int.reduceNe, Int.reduceSub, Int.reduceToNat, Nat.reduceAdd, Nat.reduceBEq, Nat.reduceEqDiff, Nat.reduceLT, Nat.reduceLeDiff, Nat.reduceMul, Nat.reduceSub, reduceCtorEq, reduceIte]
              repeat (refine And.intro ?_ ?_; · first | rfl | omega | assumption | (simp; done) | (simp; omega) | (intros; omega) | (intros; simp_all; done) | (intros; simp_all; omega) | (and_intros <;> first | rfl | omega | assumption | (simp; done)))
              refine hK29 _ _ ?_
              refine wps_seq fun K30 hK30 => ?_
              refine wps_region (by rw [hnt]; rfl) 0 ?_
              simp only [↓kOps_app, ↓evOps_nil, ↓evOps_cons, go_sem, Int.reduceAdd, Int.reduceBEq, Int.reduceEq, Int.reduceLE, Int.reduceLT, Int.reduceNe, Int.reduceSub, Int.reduceToNat, Nat.reduceAdd, Nat.reduceBEq, Nat.reduceEqDiff, Nat.reduceLT, Nat.reduceLeDiff, Nat.reduceMul, Nat.reduceSub, reduceCtorEq, reduceIte]
              repeat (refine And.intro ?_ ?_; · first | rfl | omega | assumption | (simp; done) | (simp; omega) | (intros; omega) | (intros; simp_all; done) | (intros; simp_all; omega) | (and_intros <;> first | rfl | omega | assumption | (simp; done)))
              skip
              repeat (refine And.intro ?_ ?_; · first | rfl | omega | assumption | (simp; done) | (simp; omega) | (intros; omega) | (intros; simp_all; done) | (intros; simp_all; omega) | (and_intros <;> first | rfl | omega | assumption | (simp; done)))
              skip
              repeat (refine And.intro ?_ ?_; · first | rfl | omega | assumption | (simp; done) | (simp; omega) | (intros; omega) | (intros; simp_all; done) | (intros; simp_all; omega) | (and_intros <;> first | rfl | omega | assumption | (simp; done)))
              refine hK30 _ _ ?_
              refine wps_cond (b := _) rfl (fun h9 => ?_) (fun h9 => ?_)
              · exact absurd h9 (by simp)
              · refine wps_skip ?_
                refine hK17 _ _ ?_
                refine hK12 _ _ ?_
                refine hK11 _ _ ?_
                refine wps_keep [1, 2, 7, 8, 9, 10] (by simp only [keep_cons, keep_nil, keep_done, List.contains_lit_cons, List.contains_lit_nil, List.erase_lit_cons, List.erase_lit_nil, reduceIte, Nat.reduceEqDiff, Bool.false_eq_true]; rfl) ?_
                refine wps_region (by rw [hnt]; rfl) 0 ?_
                simp only [↓kOps_app, ↓evOps_nil, ↓evOps_cons, go_sem, Int.reduceAdd, Int.reduceBEq, Int.reduceEq, Int.reduceLE, Int.reduceLT, Int.reduceNe, Int.reduceSub, Int.reduceToNat, Nat.reduceAdd, Nat.reduceBEq, Nat.reduceEqDiff, Nat.reduceLT, Nat.reduceLeDiff, Nat.reduceMul, Nat.reduceSub, reduceCtorEq, reduceIte, hw1]
                repeat (refine And.intro ?_ ?_; · first | rfl | omega | assumption | (simp; done) | (simp; omega) | (intros; omega) | (intros; simp_all; done) | (intros; simp_all; omega) | (and_intros <;> first | rfl | omega | assumption | (simp; done)))
                exact hKL _ _ (acts.length - (i + 1)) _ _ (entL hc0 [some 0, some 1] rfl rfl (by simp only [go_sem, reduceIte, Nat.reduceEqDiff, Nat.reduceAdd, Nat.reduceLT]) (by simp only [retSV, SV.mv, mvs, subL, List.map_nil, List.map_cons, SObj.mv, posOf, back, List.length_cons, List.length_nil, List.getElem?_cons_zero, List.getElem?_cons_succ, Option.map_some, Nat.reduceAdd, Nat.reduceLT, Nat.zero_add, Nat.lt_add_one, List.getD_cons_zero, List.getD_cons_succ, reduceIte, Nat.reduceEqDiff, Env.get, Env.put, and_true, true_and, implies_true]; rfl)) ⟨i + 1, u, rfl, by omega, by omega, ⟨by omega, by omega⟩, .inl ⟨_, _, _, _, _, rfl, rfl⟩⟩ (by omega)
            · refine wps_seq fun K31 hK31 => ?_
              refine wps_region (by rw [hnt]; rfl) 0 ?_
              simp only [↓kOps_app, ↓evOps_nil, ↓evOps_cons, go_sem, Int.reduceAdd, Int.reduceBEq, Int.reduceEq, Int.reduceLE, Int.reduceLT, Int.reduceNe, Int.reduceSub, Int.reduceToNat, Nat.reduceAdd, Nat.reduceBEq, Nat.reduceEqDiff, Nat.reduceLT, Nat.reduceLeDiff, Nat.reduceMul, Nat.reduceSub, reduceCtorEq, reduceIte]
              repeat (refine And.intro ?_ ?_; · first | rfl | omega | assumption | (simp; done) | (simp; omega) | (intros; omega) | (intros; simp_all; done) | (intros; simp_all; omega) | (and_intros <;> first | rfl | omega | assumption | (simp; done)))
              refine hK31 _ _ ?_
              refine wps_cond (b := _) rfl (fun h10 => ?_) (fun h10 => ?_)
              · have hp := answerC_ok u (acat acts i).r (acat acts i).at_ (acat acts i).e
                simp only [clC, ccells] at hp
                refine wps_seq fun K32 hK32 => ?_
                refine wps_region (by rw [hnt]; rfl) 0 ?_
                simp only [↓kOps_app, ↓evOps_nil, ↓evOps_cons, go_sem, Int.reduceAdd, Int.reduceBEq, Int.reduceEq, Int.reduceLE, Int.reduceLT, Int.reduceNe, Int.reduceSub, Int.reduceToNat, Nat.reduceAdd, Nat.reduceBEq, Nat.reduceEqDiff, Nat.reduceLT, Nat.reduceLeDiff, Nat.reduceMul, Nat.reduceSub, reduceCtorEq, reduceIte]
                repeat (refine And.intro ?_ ?_; · first | rfl | omega | assumption | (simp; done) | (simp; omega) | (intros; omega) | (intros; simp_all; done) | (intros; simp_all; omega) | (and_intros <;> first | rfl | omega | assumption | (simp; done)))
                refine callT_at [1] [_] hp rfl rfl ⟨rfl, trivial⟩ (by simp only [go_sem, reduceIte, Nat.reduceEqDiff, Nat.reduceAdd, Nat.reduceLT]) (by simp only [go_sem, reduceIte, Nat.reduceEqDiff, Nat.reduceAdd, Nat.reduceLT]) rfl (fun N => by (try simp only [go_sem, reduceIte, Nat.reduceEqDiff, Nat.reduceAdd, Nat.reduceLT]); try rfl) (fun N => by (try simp only [go_sem, reduceIte, Nat.reduceEqDiff, Nat.reduceAdd, Nat.reduceLT]); try rfl) ?_
                simp only [↓kOps_app, ↓evOps_nil, ↓evOps_cons, go_sem, Int.reduceAdd, Int.reduceBEq, Int.reduceEq, Int.reduceLE, Int.reduceLT, Int.reduceNe, Int.reduceSub, Int.reduceToNat, Nat.reduceAdd, Nat.reduceBEq, Nat.reduceEqDiff, Nat.reduceLT, Nat.reduceLeDiff, Nat.reduceMul, Nat.reduceSub, reduceCtorEq, reduceIte]
                repeat (refine And.intro ?_ ?_; · first | rfl | omega | assumption | (simp; done) | (simp; omega) | (intros; omega) | (intros; simp_all; done) | (intros; simp_all; omega) | (and_intros <;> first | rfl | omega | assumption | (simp; done)))
                refine hK32 _ _ ?_
                refine wps_cond (b := _) rfl (fun h11 => ?_) (fun h11 => ?_)
                · exact absurd h11 (by simp)
                · refine wps_skip ?_
                  refine hK17 _ _ ?_
                  refine hK12 _ _ ?_
                  refine hK11 _ _ ?_
                  refine wps_keep [1, 2, 7, 8, 9, 10] (by simp only [keep_cons, keep_nil, keep_done, List.contains_lit_cons, List.contains_lit_nil, List.erase_lit_cons, List.erase_lit_nil, reduceIte, Nat.reduceEqDiff, Bool.false_eq_true]; rfl) ?_
                  refine wps_region (by rw [hnt]; rfl) 0 ?_
                  simp only [↓kOps_app, ↓evOps_nil, ↓evOps_cons, go_sem, Int.reduceAdd, Int.reduceBEq, Int.reduceEq, Int.reduceLE, Int.reduceLT, Int.reduceNe, Int.reduceSub, Int.reduceToNat, Nat.reduceAdd, Nat.reduceBEq, Nat.reduceEqDiff, Nat.reduceLT, Nat.reduceLeDiff, Nat.reduceMul, Nat.reduceSub, reduceCtorEq, reduceIte, hw1]
                  repeat (refine And.intro ?_ ?_; · first | rfl | omega | assumption | (simp; done) | (simp; omega) | (intros; omega) | (intros; simp_all; done) | (intros; simp_all; omega) | (and_intros <;> first | rfl | omega | assumption | (simp; done)))
                  exact hKL _ _ (acts.length - (i + 1)) _ _ (entL hc0 [some 0, some 1] rfl rfl (by simp only [go_sem, reduceIte, Nat.reduceEqDiff, Nat.reduceAdd, Nat.reduceLT]) (by simp only [retSV, SV.mv, mvs, subL, List.map_nil, List.map_cons, SObj.mv, posOf, back, List.length_cons, List.length_nil, List.getElem?_cons_zero, List.getElem?_cons_succ, Option.map_some, Nat.reduceAdd, Nat.reduceLT, Nat.zero_add, Nat.lt_add_one, List.getD_cons_zero, List.getD_cons_succ, reduceIte, Nat.reduceEqDiff, Env.get, Env.put, and_true, true_and, implies_true]; rfl)) ⟨i + 1, u, rfl, by omega, by omega, ⟨by omega, by omega⟩, .inl ⟨_, _, _, _, _, rfl, rfl⟩⟩ (by omega)
              · refine wps_skip ?_
                refine hK17 _ _ ?_
                refine hK12 _ _ ?_
                refine hK11 _ _ ?_
                refine wps_region (by rw [hnt]; rfl) 0 ?_
                simp only [↓kOps_app, ↓evOps_nil, ↓evOps_cons, go_sem, Int.reduceAdd, Int.reduceBEq, Int.reduceEq, Int.reduceLE, Int.reduceLT, Int.reduceNe, Int.reduceSub, Int.reduceToNat, Nat.reduceAdd, Nat.reduceBEq, Nat.reduceEqDiff, Nat.reduceLT, Nat.reduceLeDiff, Nat.reduceMul, Nat.reduceSub, reduceCtorEq, reduceIte, hw1]
                repeat (refine And.intro ?_ ?_; · first | rfl | omega | assumption | (simp; done) | (simp; omega) | (intros; omega) | (intros; simp_all; done) | (intros; simp_all; omega) | (and_intros <;> first | rfl | omega | assumption | (simp; done)))
                exact hKL _ _ (acts.length - (i + 1)) _ _ (entL hc0 [some 0, some 1] rfl rfl (by simp only [go_sem, reduceIte, Nat.reduceEqDiff, Nat.reduceAdd, Nat.reduceLT]) (by simp only [retSV, SV.mv, mvs, subL, List.map_nil, List.map_cons, SObj.mv, posOf, back, List.length_cons, List.length_nil, List.getElem?_cons_zero, List.getElem?_cons_succ, Option.map_some, Nat.reduceAdd, Nat.reduceLT, Nat.zero_add, Nat.lt_add_one, List.getD_cons_zero, List.getD_cons_succ, reduceIte, Nat.reduceEqDiff, Env.get, Env.put, and_true, true_and, implies_true]; rfl)) ⟨i + 1, u, rfl, by omega, by omega, ⟨by omega, by omega⟩, .inl ⟨_, _, _, _, _, rfl, rfl⟩⟩ (by omega)
        refine wps_seq fun K33 hK33 => ?_
        refine wps_region (by rw [hnt]; rfl) 0 ?_
        simp only [↓kOps_app, ↓evOps_nil, ↓evOps_cons, go_sem, Int.reduceAdd, Int.reduceBEq, Int.reduceEq, Int.reduceLE, Int.reduceLT, Int.reduceNe, Int.reduceSub, Int.reduceToNat, Nat.reduceAdd, Nat.reduceBEq, Nat.reduceEqDiff, Nat.reduceLT, Nat.reduceLeDiff, Nat.reduceMul, Nat.reduceSub, reduceCtorEq, reduceIte]
        repeat (refine And.intro ?_ ?_; · first | rfl | omega | assumption | (simp; done) | (simp; omega) | (intros; omega) | (intros; simp_all; done) | (intros; simp_all; omega) | (and_intros <;> first | rfl | omega | assumption | (simp; done)))
        refine hK33 _ _ ?_
        refine wps_cond (b := _) rfl (fun h3 => ?_) (fun h3 => ?_)
        · simp at h3
          refine wps_keep [1, 2, 7, 8, 9, 10, 11] (by simp only [keep_cons, keep_nil, keep_done, List.contains_lit_cons, List.contains_lit_nil, List.erase_lit_cons, List.erase_lit_nil, reduceIte, Nat.reduceEqDiff, Bool.false_eq_true]; rfl) ?_
          refine wps_region (by rw [hnt]; rfl) 0 ?_
          simp only [↓kOps_app, ↓evOps_nil, ↓evOps_cons, go_sem, Int.reduceAdd, Int.reduceBEq, Int.reduceEq, Int.reduceLE, Int.reduceLT, Int.reduceNe, Int.reduceSub, Int.reduceToNat, Nat.reduceAdd, Nat.reduceBEq, Nat.reduceEqDiff, Nat.reduceLT, Nat.reduceLeDiff, Nat.reduceMul, Nat.reduceSub, reduceCtorEq, reduceIte]
          repeat (refine And.intro ?_ ?_; · first | rfl | omega | assumption | (simp; done) | (simp; omega) | (intros; omega) | (intros; simp_all; done) | (intros; simp_all; omega) | (and_intros <;> first | rfl | omega | assumption | (simp; done)))
          exact hJ3 ((acat acts i).ws.take 10) (by simp; omega) _ _ (entL hc0 [some 0, some 1, some 2] rfl rfl (by simp only [go_sem, reduceIte, Nat.reduceEqDiff, Nat.reduceAdd, Nat.reduceLT]) (by simp only [retSV, SV.mv, mvs, subL, List.map_nil, List.map_cons, SObj.mv, posOf, back, List.length_cons, List.length_nil, List.getElem?_cons_zero, List.getElem?_cons_succ, Option.map_some, Nat.reduceAdd, Nat.reduceLT, Nat.zero_add, Nat.lt_add_one, List.getD_cons_zero, List.getD_cons_succ, reduceIte, Nat.reduceEqDiff, Env.get, Env.put, and_true, true_and, implies_true, List.map_take]))
        · refine wps_skip ?_
          simp at h3
          exact hJ3 (acat acts i).ws (by omega) _ _ (entL hc0 [some 0, some 1, some 2] rfl rfl (by simp only [go_sem, reduceIte, Nat.reduceEqDiff, Nat.reduceAdd, Nat.reduceLT]) (by simp only [go_sem, reduceIte, Nat.reduceEqDiff, Nat.reduceAdd, Nat.reduceLT]))
      · refine wps_exit ?_
        simp only [reduceIte, Nat.reduceEqDiff]
        refine hK8 _ _ ?_
        refine hK6 _ _ ?_
        refine wps_seq fun K34 hK34 => ?_
        refine wps_region (by rw [hnt]; rfl) 0 ?_
        simp only [↓kOps_app, ↓evOps_nil, ↓evOps_cons, go_sem, Int.reduceAdd, Int.reduceBEq, Int.reduceEq, Int.reduceLE, Int.reduceLT, Int.reduceNe, Int.reduceSub, Int.reduceToNat, Nat.reduceAdd, Nat.reduceBEq, Nat.reduceEqDiff, Nat.reduceLT, Nat.reduceLeDiff, Nat.reduceMul, Nat.reduceSub, reduceCtorEq, reduceIte]
        repeat (refine And.intro ?_ ?_; · first | rfl | omega | assumption | (simp; done) | (simp; omega) | (intros; omega) | (intros; simp_all; done) | (intros; simp_all; omega) | (and_intros <;> first | rfl | omega | assumption | (simp; done)))
        refine callT_at [1] [_] htr rfl rfl ⟨rfl, trivial⟩ (by simp only [go_sem, reduceIte, Nat.reduceEqDiff, Nat.reduceAdd, Nat.reduceLT]) (by simp only [go_sem, reduceIte, Nat.reduceEqDiff, Nat.reduceAdd, Nat.reduceLT]) rfl (fun N => by (try simp only [go_sem, reduceIte, Nat.reduceEqDiff, Nat.reduceAdd, Nat.reduceLT]); try rfl) (fun N => by (try simp only [go_sem, reduceIte, Nat.reduceEqDiff, Nat.reduceAdd, Nat.reduceLT]); try rfl) ?_
        simp only [↓kOps_app, ↓evOps_nil, ↓evOps_cons, go_sem, Int.reduceAdd, Int.reduceBEq, Int.reduceEq, Int.reduceLE, Int.reduceLT, Int.reduceNe, Int.reduceSub, Int.reduceToNat, Nat.reduceAdd, Nat.reduceBEq, Nat.reduceEqDiff, Nat.reduceLT, Nat.reduceLeDiff, Nat.reduceMul, Nat.reduceSub, reduceCtorEq, reduceIte]
        repeat (refine And.intro ?_ ?_; · first | rfl | omega | assumption | (simp; done) | (simp; omega) | (intros; omega) | (intros; simp_all; done) | (intros; simp_all; omega) | (and_intros <;> first | rfl | omega | assumption | (simp; done)))
        refine hK34 _ _ ?_
        refine wps_ret ?_
        refine retL [] rfl ⟨trivial, trivial⟩ rfl rfl ?_
        simp only [retSV, SV.mv, mvs, subL, List.map_nil, List.map_cons, SObj.mv, posOf, back, List.length_cons, List.length_nil, List.getElem?_cons_zero, List.getElem?_cons_succ, Option.map_some, Nat.reduceAdd, Nat.reduceLT, Nat.zero_add, Nat.lt_add_one, List.getD_cons_zero, List.getD_cons_succ, reduceIte, Nat.reduceEqDiff, Env.get, Env.put, and_true, true_and, implies_true]
    · have htr := triesO_ok u o
      have ht1 : decide (0 < o.tries) = true := by simp; omega
      have hwt : IntKind.i64.wrap (o.tries + 1) = o.tries + 1 := wrap64 (by omega) (by omega)
      simp only [clO, ccells, ocells] at htr
      unfold ccells ocells
      refine wps_seq fun K35 hK35 => ?_
      refine wps_seq fun K36 hK36 => ?_
      refine wps_region (by rw [hnt]; rfl) 0 ?_
      simp only [↓kOps_app, ↓evOps_nil, ↓evOps_cons, go_sem, Int.reduceAdd, Int.reduceBEq, Int.reduceEq, Int.reduceLE, Int.reduceLT, Int.reduceNe, Int.reduceSub, Int.reduceToNat, Nat.reduceAdd, Nat.reduceBEq, Nat.reduceEqDiff, Nat.reduceLT, Nat.reduceLeDiff, Nat.reduceMul, Nat.reduceSub, reduceCtorEq, reduceIte]
      repeat (refine And.intro ?_ ?_; · first | rfl | omega | assumption | (simp; done) | (simp; omega) | (intros; omega) | (intros; simp_all; done) | (intros; simp_all; omega) | (and_intros <;> first | rfl | omega | assumption | (simp; done)))
      refine hK36 _ _ ?_
      refine wps_cond (b := _) rfl (fun h2 => ?_) (fun h2 => ?_)
      · simp at h2
        have hel := arow_at h2.1
        have hw1 : IntKind.i64.wrap ((i : Int) + 1) = ((i + 1 : Nat) : Int) := by rw [wrap64 (by omega) (by omega)]; omega
        have hrow := wrow_len (ws := (acat acts i).ws)
        refine wps_skip ?_
        refine hK35 _ _ ?_
        refine wps_seq fun K37 hK37 => ?_
        refine wps_blk fun K38 hK38 => ?_
        refine wps_seq fun K39 hK39 => ?_
        refine wps_region (by rw [hnt]; rfl) 1 ?_
        simp only [↓kOps_app, ↓evOps_nil, ↓evOps_cons, go_sem, Int.reduceAdd, Int.reduceBEq, Int.reduceEq, Int.reduceLE, Int.reduceLT, Int.reduceNe, Int.reduceSub, Int.reduceToNat, Nat.reduceAdd, Nat.reduceBEq, Nat.reduceEqDiff, Nat.reduceLT, Nat.reduceLeDiff, Nat.reduceMul, Nat.reduceSub, reduceCtorEq, reduceIte, hel]
        repeat (refine And.intro ?_ ?_; · first | rfl | omega | assumption | (simp; done) | (simp; omega) | (intros; omega) | (intros; simp_all; done) | (intros; simp_all; omega) | (and_intros <;> first | rfl | omega | assumption | (simp; done)))
        refine hK39 _ _ ?_
        refine wps_seq fun K40 hK40 => ?_
        have hJ3 : ∀ ws : List Wt, ws.length ≤ 10 → ∀ e' σ', Ent c e' σ' [(1, .u (.i .u64 start)), (2, .u (.fz (acts.map arow) none)), (7, .p 1 0), (8, .p 0 0), (9, .u (.b true)), (10, .u (.i .i64 i)), (11, .p 3 0)] [.cells [.u (.i .u64 u.id), .u (.i .u64 o.r), .u (.i .u64 o.s), .u (.fz (o.ws.map wrow) none)], .cells [.u (.i .u64 u.id), .u (.i .u64 u.next), .p 2 0, .u (.i .u64 u.lr), .u (.i .u64 u.lat), .u (.i .i64 u.lerr), .u (.i .u64 u.saw)], .cells [.u (.i .u64 u.id), .u (.i .u64 o.r), .u (.i .u64 o.s), .u (.fz (o.ws.map wrow) none), .u (.i .i64 o.tries)], .cells [.u (.i .i64 (acat acts i).k), .u (.i .u64 (acat acts i).s), .u (.i .u64 (acat acts i).r), .u (.fz (ws.map wrow) none), .u (.i .u64 (acat acts i).at_), .u (.i .i64 (acat acts i).e)]] → K40 e' σ' := by
          intro ws hws e' σ' hE
          refine hK40 _ _ (wps_ent hE ?_)
          refine wps_seq fun K41 hK41 => ?_
          refine wps_region (by rw [hnt]; rfl) 0 ?_
          simp only [↓kOps_app, ↓evOps_nil, ↓evOps_cons, go_sem, Int.reduceAdd, Int.reduceBEq, Int.reduceEq, Int.reduceLE, Int.reduceLT, Int.reduceNe, Int.reduceSub, Int.reduceToNat, Nat.reduceAdd, Nat.reduceBEq, Nat.reduceEqDiff, Nat.reduceLT, Nat.reduceLeDiff, Nat.reduceMul, Nat.reduceSub, reduceCtorEq, reduceIte]
          repeat (refine And.intro ?_ ?_; · first | rfl | omega | assumption | (simp; done) | (simp; omega) | (intros; omega) | (intros; simp_all; done) | (intros; simp_all; omega) | (and_intros <;> first | rfl | omega | assumption | (simp; done)))
          refine callT_at [1, 2] [_, _] htr rfl rfl ⟨rfl, rfl, trivial⟩ (by simp only [go_sem, reduceIte, Nat.reduceEqDiff, Nat.reduceAdd, Nat.reduceLT]) (by simp only [go_sem, reduceIte, Nat.reduceEqDiff, Nat.reduceAdd, Nat.reduceLT]) rfl (fun N => by (try simp only [go_sem, reduceIte, Nat.reduceEqDiff, Nat.reduceAdd, Nat.reduceLT]); try rfl) (fun N => by (try simp only [go_sem, reduceIte, Nat.reduceEqDiff, Nat.reduceAdd, Nat.reduceLT]); try rfl) ?_
          simp only [↓kOps_app, ↓evOps_nil, ↓evOps_cons, go_sem, Int.reduceAdd, Int.reduceBEq, Int.reduceEq, Int.reduceLE, Int.reduceLT, Int.reduceNe, Int.reduceSub, Int.reduceToNat, Nat.reduceAdd, Nat.reduceBEq, Nat.reduceEqDiff, Nat.reduceLT, Nat.reduceLeDiff, Nat.reduceMul, Nat.reduceSub, reduceCtorEq, reduceIte]
          repeat (refine And.intro ?_ ?_; · first | rfl | omega | assumption | (simp; done) | (simp; omega) | (intros; omega) | (intros; simp_all; done) | (intros; simp_all; omega) | (and_intros <;> first | rfl | omega | assumption | (simp; done)))
          refine hK41 _ _ ?_
          refine wps_seq fun K42 hK42 => ?_
          refine wps_region (by rw [hnt]; rfl) 0 ?_
          simp only [↓kOps_app, ↓evOps_nil, ↓evOps_cons, go_sem, Int.reduceAdd, Int.reduceBEq, Int.reduceEq, Int.reduceLE, Int.reduceLT, Int.reduceNe, Int.reduceSub, Int.reduceToNat, Nat.reduceAdd, Nat.reduceBEq, Nat.reduceEqDiff, Nat.reduceLT, Nat.reduceLeDiff, Nat.reduceMul, Nat.reduceSub, reduceCtorEq, reduceIte]
          repeat (refine And.intro ?_ ?_; · first | rfl | omega | assumption | (simp; done) | (simp; omega) | (intros; omega) | (intros; simp_all; done) | (intros; simp_all; omega) | (and_intros <;> first | rfl | omega | assumption | (simp; done)))
          refine hK42 _ _ ?_
          refine wps_blk fun K43 hK43 => ?_
          refine wps_seq fun K44 hK44 => ?_
          refine wps_region (by rw [hnt]; rfl) 0 ?_
          simp only [↓kOps_app, ↓evOps_nil, ↓evOps_cons, go_sem, Int.reduceAdd, Int.reduceBEq, Int.reduceEq, Int.reduceLE, Int.reduceLT, Int.reduceNe, Int.reduceSub, Int.reduceToNat, Nat.reduceAdd, Nat.reduceBEq, Nat.reduceEqDiff, Nat.reduceLT, Nat.reduceLeDiff, Nat.reduceMul, Nat.reduceSub, reduceCtorEq, reduceIte]
          repeat (refine And.intro ?_ ?_; · first | rfl | omega | assumption | (simp; done) | (simp; omega) | (intros; omega) | (intros; simp_all; done) | (intros; simp_all; omega) | (and_intros <;> first | rfl | omega | assumption | (simp; done)))
          refine hK44 _ _ ?_
          refine wps_cond (b := _) rfl (fun h4 => ?_) (fun h4 => ?_)
          · have hp := startO_ok u o start ws none
            simp only [clO, ccells, ocells, bcells] at hp
            refine wps_seq fun K45 hK45 => ?_
            refine wps_region (by rw [hnt]; rfl) 1 ?_
            simp only [↓kOps_app, ↓evOps_nil, ↓evOps_cons, go_sem, Int.reduceAdd, Int.reduceBEq, Int.reduceEq, Int.reduceLE, Int.reduceLT, Int.reduceNe, Int.reduceSub, Int.reduceToNat, Nat.reduceAdd, Nat.reduceBEq, Nat.reduceEqDiff, Nat.reduceLT, Nat.reduceLeDiff, Nat.reduceMul, Nat.reduceSub, reduceCtorEq, reduceIte]
            repeat (refine And.intro ?_ ?_; · first | rfl | omega | assumption | (simp; done) | (simp; omega) | (intros; omega) | (intros; simp_all; done) | (intros; simp_all; omega) | (and_intros <;> first | rfl | omega | assumption | (simp; done)))
            refine callT_at [1, 2] [_, _] hp rfl rfl ⟨rfl, rfl, trivial⟩ (by simp only [go_sem, reduceIte, Nat.reduceEqDiff, Nat.reduceAdd, Nat.reduceLT]) (by simp only [go_sem, reduceIte, Nat.reduceEqDiff, Nat.reduceAdd, Nat.reduceLT]) rfl (fun N => by (try simp only [go_sem, reduceIte, Nat.reduceEqDiff, Nat.reduceAdd, Nat.reduceLT]); try rfl) (fun N => by (try simp only [go_sem, reduceIte, Nat.reduceEqDiff, Nat.reduceAdd, Nat.reduceLT]); try rfl) ?_
            simp only [↓kOps_app, ↓evOps_nil, ↓evOps_cons, go_sem, Int.reduceAdd, Int.reduceBEq, Int.reduceEq, Int.reduceLE, Int.reduceLT, Int.reduceNe, Int.reduceSub, Int.reduceToNat, Nat.reduceAdd, Nat.reduceBEq, Nat.reduceEqDiff, Nat.reduceLT, Nat.reduceLeDiff, Nat.reduceMul, Nat.reduceSub, reduceCtorEq, reduceIte]
            repeat (refine And.intro ?_ ?_; · first | rfl | omega | assumption | (simp; done) | (simp; omega) | (intros; omega) | (intros; simp_all; done) | (intros; simp_all; omega) | (and_intros <;> first | rfl | omega | assumption | (simp; done)))
            refine hK45 _ _ ?_
            refine wps_seq fun K46 hK46 => ?_
            refine wps_seq fun K47 hK47 => ?_
            refine wps_keep [1, 2, 7, 8, 9, 10, 13, 14] (by simp only [keep_cons, keep_nil, keep_done, List.contains_lit_cons, List.contains_lit_nil, List.erase_lit_cons, List.erase_lit_nil, reduceIte, Nat.reduceEqDiff, Bool.false_eq_true]; rfl) ?_
            refine wps_region (by rw [hnt]; rfl) 0 ?_
            simp only [↓kOps_app, ↓evOps_nil, ↓evOps_cons, go_sem, Int.reduceAdd, Int.reduceBEq, Int.reduceEq, Int.reduceLE, Int.reduceLT, Int.reduceNe, Int.reduceSub, Int.reduceToNat, Nat.reduceAdd, Nat.reduceBEq, Nat.reduceEqDiff, Nat.reduceLT, Nat.reduceLeDiff, Nat.reduceMul, Nat.reduceSub, reduceCtorEq, reduceIte]
            repeat (refine And.intro ?_ ?_; · first | rfl | omega | assumption | (simp; done) | (simp; omega) | (intros; omega) | (intros; simp_all; done) | (intros; simp_all; omega) | (and_intros <;> first | rfl | omega | assumption | (simp; done)))
            refine hK47 _ _ ?_
            refine wps_cond (b := _) rfl (fun h5 => ?_) (fun h5 => ?_)
            · exact absurd h5 (by simp)
            · refine wps_skip ?_
              refine hK46 _ _ ?_
              refine wps_seq fun K48 hK48 => ?_
              refine wps_region (by rw [hnt]; rfl) 0 ?_
              simp only [↓kOps_app, ↓evOps_nil, ↓evOps_cons, go_sem, Int.reduceAdd, Int.reduceBEq, Int.reduceEq, Int.reduceLE, Int.reduceLT, Int.reduceNe, Int.reduceSub, Int.reduceToNat, Nat.reduceAdd, Nat.reduceBEq, Nat.reduceEqDiff, Nat.reduceLT, Nat.reduceLeDiff, Nat.reduceMul, Nat.reduceSub, reduceCtorEq, reduceIte]
              repeat (refine And.intro ?_ ?_; · first | rfl | omega | assumption | (simp; done) | (simp; omega) | (intros; omega) | (intros; simp_all; done) | (intros; simp_all; omega) | (and_intros <;> first | rfl | omega | assumption | (simp; done)))
              refine hK48 _ _ ?_
              refine wps_cond (b := _) rfl (fun h6 => ?_) (fun h6 => ?_)
              · exact absurd h6 (by simp)
              · refine wps_skip ?_
                refine hK43 _ _ ?_
                refine hK38 _ _ ?_
                refine hK37 _ _ ?_
                refine wps_region (by rw [hnt]; rfl) 0 ?_
                simp only [↓kOps_app, ↓evOps_nil, ↓evOps_cons, go_sem, Int.reduceAdd, Int.reduceBEq, Int.reduceEq, Int.reduceLE, Int.reduceLT, Int.reduceNe, Int.reduceSub, Int.reduceToNat, Nat.reduceAdd, Nat.reduceBEq, Nat.reduceEqDiff, Nat.reduceLT, Nat.reduceLeDiff, Nat.reduceMul, Nat.reduceSub, reduceCtorEq, reduceIte, hw1]
                repeat (refine And.intro ?_ ?_; · first | rfl | omega | assumption | (simp; done) | (simp; omega) | (intros; omega) | (intros; simp_all; done) | (intros; simp_all; omega) | (and_intros <;> first | rfl | omega | assumption | (simp; done)))
                exact hKL _ _ (acts.length - (i + 1)) _ _ (entL hc0 [some 0, some 1, some 2] rfl rfl (by simp only [go_sem, reduceIte, Nat.reduceEqDiff, Nat.reduceAdd, Nat.reduceLT]) (by simp only [retSV, SV.mv, mvs, subL, List.map_nil, List.map_cons, SObj.mv, posOf, back, List.length_cons, List.length_nil, List.getElem?_cons_zero, List.getElem?_cons_succ, Option.map_some, Nat.reduceAdd, Nat.reduceLT, Nat.zero_add, Nat.lt_add_one, List.getD_cons_zero, List.getD_cons_succ, reduceIte, Nat.reduceEqDiff, Env.get, Env.put, and_true, true_and, implies_true]; rfl)) ⟨i + 1, u, rfl, by omega, by omega, ⟨by omega, by omega⟩, .inr ⟨o, ⟨by omega, by omega⟩, ho2, rfl, rfl⟩⟩ (by omega)
          · refine wps_seq fun K49 hK49 => ?_
            refine wps_region (by rw [hnt]; rfl) 0 ?_
            simp only [↓kOps_app, ↓evOps_nil, ↓evOps_cons, go_sem, Int.reduceAdd, Int.reduceBEq, Int.reduceEq, Int.reduceLE, Int.reduceLT, Int.reduceNe, Int.reduceSub, Int.reduceToNat, Nat.reduceAdd, Nat.reduceBEq, Nat.reduceEqDiff, Nat.reduceLT, Nat.reduceLeDiff, Nat.reduceMul, Nat.reduceSub, reduceCtorEq, reduceIte]
            repeat (refine And.intro ?_ ?_; · first | rfl | omega | assumption | (simp; done) | (simp; omega) | (intros; omega) | (intros; simp_all; done) | (intros; simp_all; omega) | (and_intros <;> first | rfl | omega | assumption | (simp; done)))
            refine hK49 _ _ ?_
            refine wps_cond (b := _) rfl (fun h8 => ?_) (fun h8 => ?_)
            · refine wps_seq fun K50 hK50 => ?_
              · have hp := againO_ok u o (roomy10 ho2) ⟨by omega, by omega⟩
                have hsm := same_ok u.id o.r o.s o.ws none none (by omega)
                have htr' := triesO_ok u ⟨o.r, o.s, o.ws, o.tries + 1⟩
                simp only [clO, ccells, ocells, bcells] at hp hsm htr'
                refine wps_region (by rw [hnt]; rfl) 1 ?_
                simp only [↓kOps_app, ↓evOps_nil, ↓evOps_cons, go_sem, Int.reduceAdd, Int.reduceBEq, Int.reduceEq, Int.reduceLE, Int.reduceLT, Int.reduceNe, Int.reduceSub, Int.reduceToNat, Nat.reduceAdd, Nat.reduceBEq, Nat.reduceEqDiff, Nat.reduceLT, Nat.reduceLeDiff, Nat.reduceMul, Nat.reduceSub, reduceCtorEq, reduceIte]
                repeat (refine And.intro ?_ ?_; · first | rfl | omega | assumption | (simp; done) | (simp; omega) | (intros; omega) | (intros; simp_all; done) | (intros; simp_all; omega) | (and_intros <;> first | rfl | omega | assumption | (simp; done)))
                refine callT_at [1, 2] [_, _] hp rfl rfl ⟨rfl, rfl, trivial⟩ (by simp only [go_sem, reduceIte, Nat.reduceEqDiff, Nat.reduceAdd, Nat.reduceLT]) (by simp only [go_sem, reduceIte, Nat.reduceEqDiff, Nat.reduceAdd, Nat.reduceLT]) rfl (fun N => by (try simp only [go_sem, reduceIte, Nat.reduceEqDiff, Nat.reduceAdd, Nat.reduceLT]); try rfl) (fun N => by (try simp only [go_sem, reduceIte, Nat.reduceEqDiff, Nat.reduceAdd, Nat.reduceLT]); try rfl) ?_
                simp only [↓kOps_app, ↓evOps_nil, ↓evOps_cons, go_sem, Int.reduceAdd, Int.reduceBEq, Int.reduceEq, Int.reduceLE, Int.reduceLT, Int.reduceNe, Int.reduceSub, Int.reduceToNat, Nat.reduceAdd, Nat.reduceBEq, Nat.reduceEqDiff, Nat.reduceLT, Nat.reduceLeDiff, Nat.reduceMul, Nat.reduceSub, reduceCtorEq, reduceIte]
                repeat (refine And.intro ?_ ?_; · first | rfl | omega | assumption | (simp; done) | (simp; omega) | (intros; omega) | (intros; simp_all; done) | (intros; simp_all; omega) | (and_intros <;> first | rfl | omega | assumption | (simp; done)))
                refine hK50 _ _ ?_
                refine wps_seq fun K51 hK51 => ?_
                refine wps_region (by rw [hnt]; rfl) 0 ?_
                simp only [↓kOps_app, ↓evOps_nil, ↓evOps_cons, go_sem, Int.reduceAdd, Int.reduceBEq, Int.reduceEq, Int.reduceLE, Int.reduceLT, Int.reduceNe, Int.reduceSub, Int.reduceToNat, Nat.reduceAdd, Nat.reduceBEq, Nat.reduceEqDiff, Nat.reduceLT, Nat.reduceLeDiff, Nat.reduceMul, Nat.reduceSub, reduceCtorEq, reduceIte, hwt]
                repeat (refine And.intro ?_ ?_; · first | rfl | omega | assumption | (simp; done) | (simp; omega) | (intros; omega) | (intros; simp_all; done) | (intros; simp_all; omega) | (and_intros <;> first | rfl | omega | assumption | (simp; done)))
                refine callT_at [] [] hsm rfl rfl trivial (by simp only [go_sem, reduceIte, Nat.reduceEqDiff, Nat.reduceAdd, Nat.reduceLT]) (by simp only [go_sem, reduceIte, Nat.reduceEqDiff, Nat.reduceAdd, Nat.reduceLT]) rfl (fun N => by (try simp only [go_sem, reduceIte, Nat.reduceEqDiff, Nat.reduceAdd, Nat.reduceLT]); try rfl) (fun N => by (try simp only [go_sem, reduceIte, Nat.reduceEqDiff, Nat.reduceAdd, Nat.reduceLT]); try rfl) ?_
                simp only [↓kOps_app, ↓evOps_nil, ↓evOps_cons, go_sem, Int.reduceAdd, Int.reduceBEq, Int.reduceEq, Int.reduceLE, Int.reduceLT, Int.reduceNe, Int.reduceSub, Int.reduceToNat, Nat.reduceAdd, Nat.reduceBEq, Nat.reduceEqDiff, Nat.reduceLT, Nat.reduceLeDiff, Nat.reduceMul, Nat.reduceSub, reduceCtorEq, reduceIte, hwt]
                repeat (refine And.intro ?_ ?_; · first | rfl | omega | assumption | (simp; done) | (simp; omega) | (intros; omega) | (intros; simp_all; done) | (intros; simp_all; omega) | (and_intros <;> first | rfl | omega | assumption | (simp; done)))
                refine callT_at [1, 2] [_, _] htr' rfl rfl ⟨rfl, rfl, trivial⟩ (by simp only [go_sem, reduceIte, Nat.reduceEqDiff, Nat.reduceAdd, Nat.reduceLT]) (by simp only [go_sem, reduceIte, Nat.reduceEqDiff, Nat.reduceAdd, Nat.reduceLT]) rfl (fun N => by (try simp only [go_sem, reduceIte, Nat.reduceEqDiff, Nat.reduceAdd, Nat.reduceLT]); try rfl) (fun N => by (try simp only [go_sem, reduceIte, Nat.reduceEqDiff, Nat.reduceAdd, Nat.reduceLT]); try rfl) ?_
                simp only [↓kOps_app, ↓evOps_nil, ↓evOps_cons, go_sem, Int.reduceAdd, Int.reduceBEq, Int.reduceEq, Int.reduceLE, Int.reduceLT, Int.reduceNe, Int.reduceSub, Int.reduceToNat, Nat.reduceAdd, Nat.reduceBEq, Nat.reduceEqDiff, Nat.reduceLT, Nat.reduceLeDiff, Nat.reduceMul, Nat.reduceSub, reduceCtorEq, reduceIte, hwt]
                repeat (refine And.intro ?_ ?_; · first | rfl | omega | assumption | (simp; done) | (simp; omega) | (intros; omega) | (intros; simp_all; done) | (intros; simp_all; omega) | (and_intros <;> first | rfl | omega | assumption | (simp; done)))
                refine hK51 _ _ ?_
                refine wps_cond (b := _) rfl (fun h9 => ?_) (fun h9 => ?_)
                · exact absurd h9 (by simp)
                · refine wps_skip ?_
                  refine hK43 _ _ ?_
                  refine hK38 _ _ ?_
                  refine hK37 _ _ ?_
                  refine wps_keep [1, 2, 7, 8, 9, 10] (by simp only [keep_cons, keep_nil, keep_done, List.contains_lit_cons, List.contains_lit_nil, List.erase_lit_cons, List.erase_lit_nil, reduceIte, Nat.reduceEqDiff, Bool.false_eq_true]; rfl) ?_
                  refine wps_region (by rw [hnt]; rfl) 0 ?_
                  simp only [↓kOps_app, ↓evOps_nil, ↓evOps_cons, go_sem, Int.reduceAdd, Int.reduceBEq, Int.reduceEq, Int.reduceLE, Int.reduceLT, Int.reduceNe, Int.reduceSub, Int.reduceToNat, Nat.reduceAdd, Nat.reduceBEq, Nat.reduceEqDiff, Nat.reduceLT, Nat.reduceLeDiff, Nat.reduceMul, Nat.reduceSub, reduceCtorEq, reduceIte, hw1]
                  repeat (refine And.intro ?_ ?_; · first | rfl | omega | assumption | (simp; done) | (simp; omega) | (intros; omega) | (intros; simp_all; done) | (intros; simp_all; omega) | (and_intros <;> first | rfl | omega | assumption | (simp; done)))
                  exact hKL _ _ (acts.length - (i + 1)) _ _ (entL hc0 [some 0, some 1, some 2] rfl rfl (by simp only [go_sem, reduceIte, Nat.reduceEqDiff, Nat.reduceAdd, Nat.reduceLT]) (by simp only [retSV, SV.mv, mvs, subL, List.map_nil, List.map_cons, SObj.mv, posOf, back, List.length_cons, List.length_nil, List.getElem?_cons_zero, List.getElem?_cons_succ, Option.map_some, Nat.reduceAdd, Nat.reduceLT, Nat.zero_add, Nat.lt_add_one, List.getD_cons_zero, List.getD_cons_succ, reduceIte, Nat.reduceEqDiff, Env.get, Env.put, and_true, true_and, implies_true]; rfl)) ⟨i + 1, u, rfl, by omega, by omega, ⟨by omega, by omega⟩, .inr ⟨⟨o.r, o.s, o.ws, o.tries + 1⟩, ⟨by simp only; omega, by simp only; omega⟩, ho2, rfl, rfl⟩⟩ (by omega)
            · refine wps_seq fun K52 hK52 => ?_
              refine wps_region (by rw [hnt]; rfl) 0 ?_
              simp only [↓kOps_app, ↓evOps_nil, ↓evOps_cons, go_sem, Int.reduceAdd, Int.reduceBEq, Int.reduceEq, Int.reduceLE, Int.reduceLT, Int.reduceNe, Int.reduceSub, Int.reduceToNat, Nat.reduceAdd, Nat.reduceBEq, Nat.reduceEqDiff, Nat.reduceLT, Nat.reduceLeDiff, Nat.reduceMul, Nat.reduceSub, reduceCtorEq, reduceIte]
              repeat (refine And.intro ?_ ?_; · first | rfl | omega | assumption | (simp; done) | (simp; omega) | (intros; omega) | (intros; simp_all; done) | (intros; simp_all; omega) | (and_intros <;> first | rfl | omega | assumption | (simp; done)))
              refine hK52 _ _ ?_
              refine wps_cond (b := _) rfl (fun h10 => ?_) (fun h10 => ?_)
              · refine wps_seq fun K53 hK53 => ?_
                by_cases hreq : o.r = (acat acts i).r
                · have hp := answerY_ok u o (acat acts i).r (acat acts i).at_ (acat acts i).e hreq
                  simp only [clO, ccells, ocells] at hp
                  refine wps_region (by rw [hnt]; rfl) 0 ?_
                  simp only [↓kOps_app, ↓evOps_nil, ↓evOps_cons, go_sem, Int.reduceAdd, Int.reduceBEq, Int.reduceEq, Int.reduceLE, Int.reduceLT, Int.reduceNe, Int.reduceSub, Int.reduceToNat, Nat.reduceAdd, Nat.reduceBEq, Nat.reduceEqDiff, Nat.reduceLT, Nat.reduceLeDiff, Nat.reduceMul, Nat.reduceSub, reduceCtorEq, reduceIte]
                  repeat (refine And.intro ?_ ?_; · first | rfl | omega | assumption | (simp; done) | (simp; omega) | (intros; omega) | (intros; simp_all; done) | (intros; simp_all; omega) | (and_intros <;> first | rfl | omega | assumption | (simp; done)))
                  refine callT_at [1, 2] [_, _] hp rfl rfl ⟨rfl, rfl, trivial⟩ (by simp only [go_sem, reduceIte, Nat.reduceEqDiff, Nat.reduceAdd, Nat.reduceLT]) (by simp only [go_sem, reduceIte, Nat.reduceEqDiff, Nat.reduceAdd, Nat.reduceLT]) rfl (fun N => by (try simp only [go_sem, reduceIte, Nat.reduceEqDiff, Nat.reduceAdd, Nat.reduceLT]); try rfl) (fun N => by (try simp only [go_sem, reduceIte, Nat.reduceEqDiff, Nat.reduceAdd, Nat.reduceLT]); try rfl) ?_
                  simp only [↓kOps_app, ↓evOps_nil, ↓evOps_cons, go_sem, Int.reduceAdd, Int.reduceBEq, Int.reduceEq, Int.reduceLE, Int.reduceLT, Int.reduceNe, Int.reduceSub, Int.reduceToNat, Nat.reduceAdd, Nat.reduceBEq, Nat.reduceEqDiff, Nat.reduceLT, Nat.reduceLeDiff, Nat.reduceMul, Nat.reduceSub, reduceCtorEq, reduceIte]
                  repeat (refine And.intro ?_ ?_; · first | rfl | omega | assumption | (simp; done) | (simp; omega) | (intros; omega) | (intros; simp_all; done) | (intros; simp_all; omega) | (and_intros <;> first | rfl | omega | assumption | (simp; done)))
                  refine hK53 _ _ ?_
                  refine wps_cond (b := _) rfl (fun h11 => ?_) (fun h11 => ?_)
                  · refine wps_seq fun K54 hK54 => ?_
                    refine wps_seq fun K55 hK55 => ?_
                    refine wps_keep [1, 2, 7, 8, 9, 10, 11] (by simp only [keep_cons, keep_nil, keep_done, List.contains_lit_cons, List.contains_lit_nil, List.erase_lit_cons, List.erase_lit_nil, reduceIte, Nat.reduceEqDiff, Bool.false_eq_true]; rfl) ?_
                    refine wps_region (by rw [hnt]; rfl) 0 ?_
                    simp only [↓kOps_app, ↓evOps_nil, ↓evOps_cons, go_sem, Int.reduceAdd, Int.reduceBEq, Int.reduceEq, Int.reduceLE, Int.reduceLT, Int.reduceNe, Int.reduceSub, Int.reduceToNat, Nat.reduceAdd, Nat.reduceBEq, Nat.reduceEqDiff, Nat.reduceLT, Nat.reduceLeDiff, Nat.reduceMul, Nat.reduceSub, reduceCtorEq, reduceIte, hreq]
                    repeat (refine And.intro ?_ ?_; · first | rfl | omega | assumption | (simp; done) | (simp; omega) | (intros; omega) | (intros; simp_all; done) | (intros; simp_all; omega) | (and_intros <;> first | rfl | omega | assumption | (simp; done)))
                    refine hK55 _ _ ?_
                    refine wps_cond (b := _) rfl (fun h12 => ?_) (fun h12 => ?_)
                    · exact absurd h12 (by simp)
                    · refine wps_skip ?_
                      refine hK54 _ _ ?_
                      refine wps_region (by rw [hnt]; rfl) 0 ?_
                      simp only [↓kOps_app, ↓evOps_nil, ↓evOps_cons, go_sem, Int.reduceAdd, Int.reduceBEq, Int.reduceEq, Int.reduceLE, Int.reduceLT, Int.reduceNe, Int.reduceSub, Int.reduceToNat, Nat.reduceAdd, Nat.reduceBEq, Nat.reduceEqDiff, Nat.reduceLT, Nat.reduceLeDiff, Nat.reduceMul, Nat.reduceSub, reduceCtorEq, reduceIte]
                      repeat (refine And.intro ?_ ?_; · first | rfl | omega | assumption | (simp; done) | (simp; omega) | (intros; omega) | (intros; simp_all; done) | (intros; simp_all; omega) | (and_intros <;> first | rfl | omega | assumption | (simp; done)))
                      refine hK43 _ _ ?_
                      refine hK38 _ _ ?_
                      refine hK37 _ _ ?_
                      refine wps_keep [1, 2, 7, 8, 9, 10] (by simp only [keep_cons, keep_nil, keep_done, List.contains_lit_cons, List.contains_lit_nil, List.erase_lit_cons, List.erase_lit_nil, reduceIte, Nat.reduceEqDiff, Bool.false_eq_true]; rfl) ?_
                      refine wps_region (by rw [hnt]; rfl) 0 ?_
                      simp only [↓kOps_app, ↓evOps_nil, ↓evOps_cons, go_sem, Int.reduceAdd, Int.reduceBEq, Int.reduceEq, Int.reduceLE, Int.reduceLT, Int.reduceNe, Int.reduceSub, Int.reduceToNat, Nat.reduceAdd, Nat.reduceBEq, Nat.reduceEqDiff, Nat.reduceLT, Nat.reduceLeDiff, Nat.reduceMul, Nat.reduceSub, reduceCtorEq, reduceIte, hw1]
                      repeat (refine And.intro ?_ ?_; · first | rfl | omega | assumption | (simp; done) | (simp; omega) | (intros; omega) | (intros; simp_all; done) | (intros; simp_all; omega) | (and_intros <;> first | rfl | omega | assumption | (simp; done)))
                      exact hKL _ _ (acts.length - (i + 1)) _ _ (entL hc0 [some 0, some 1] rfl rfl (by simp only [go_sem, reduceIte, Nat.reduceEqDiff, Nat.reduceAdd, Nat.reduceLT]) (by simp only [retSV, SV.mv, mvs, subL, List.map_nil, List.map_cons, SObj.mv, posOf, back, List.length_cons, List.length_nil, List.getElem?_cons_zero, List.getElem?_cons_succ, Option.map_some, Nat.reduceAdd, Nat.reduceLT, Nat.zero_add, Nat.lt_add_one, List.getD_cons_zero, List.getD_cons_succ, reduceIte, Nat.reduceEqDiff, Env.get, Env.put, and_true, true_and, implies_true]; rfl)) ⟨i + 1, ⟨u.id, u.next, (acat acts i).r, (acat acts i).at_, (acat acts i).e, if (acat acts i).e = 0 then max u.saw (acat acts i).at_ else u.saw⟩, rfl, by omega, by omega, ⟨by simp only; omega, by simp only; omega⟩, .inl ⟨_, _, _, _, _, rfl, rfl⟩⟩ (by omega)
                  · exact absurd h11 (by simp)
                · have hp := answerN_ok u o (acat acts i).r (acat acts i).at_ (acat acts i).e hreq
                  simp only [clO, ccells, ocells] at hp
                  refine wps_region (by rw [hnt]; rfl) 0 ?_
                  simp only [↓kOps_app, ↓evOps_nil, ↓evOps_cons, go_sem, Int.reduceAdd, Int.reduceBEq, Int.reduceEq, Int.reduceLE, Int.reduceLT, Int.reduceNe, Int.reduceSub, Int.reduceToNat, Nat.reduceAdd, Nat.reduceBEq, Nat.reduceEqDiff, Nat.reduceLT, Nat.reduceLeDiff, Nat.reduceMul, Nat.reduceSub, reduceCtorEq, reduceIte]
                  repeat (refine And.intro ?_ ?_; · first | rfl | omega | assumption | (simp; done) | (simp; omega) | (intros; omega) | (intros; simp_all; done) | (intros; simp_all; omega) | (and_intros <;> first | rfl | omega | assumption | (simp; done)))
                  refine callT_at [1, 2] [_, _] hp rfl rfl ⟨rfl, rfl, trivial⟩ (by simp only [go_sem, reduceIte, Nat.reduceEqDiff, Nat.reduceAdd, Nat.reduceLT]) (by simp only [go_sem, reduceIte, Nat.reduceEqDiff, Nat.reduceAdd, Nat.reduceLT]) rfl (fun N => by (try simp only [go_sem, reduceIte, Nat.reduceEqDiff, Nat.reduceAdd, Nat.reduceLT]); try rfl) (fun N => by (try simp only [go_sem, reduceIte, Nat.reduceEqDiff, Nat.reduceAdd, Nat.reduceLT]); try rfl) ?_
                  simp only [↓kOps_app, ↓evOps_nil, ↓evOps_cons, go_sem, Int.reduceAdd, Int.reduceBEq, Int.reduceEq, Int.reduceLE, Int.reduceLT, Int.reduceNe, Int.reduceSub, Int.reduceToNat, Nat.reduceAdd, Nat.reduceBEq, Nat.reduceEqDiff, Nat.reduceLT, Nat.reduceLeDiff, Nat.reduceMul, Nat.reduceSub, reduceCtorEq, reduceIte]
                  repeat (refine And.intro ?_ ?_; · first | rfl | omega | assumption | (simp; done) | (simp; omega) | (intros; omega) | (intros; simp_all; done) | (intros; simp_all; omega) | (and_intros <;> first | rfl | omega | assumption | (simp; done)))
                  refine hK53 _ _ ?_
                  refine wps_cond (b := _) rfl (fun h11 => ?_) (fun h11 => ?_)
                  · exact absurd h11 (by simp)
                  · refine wps_skip ?_
                    refine hK43 _ _ ?_
                    refine hK38 _ _ ?_
                    refine hK37 _ _ ?_
                    refine wps_keep [1, 2, 7, 8, 9, 10] (by simp only [keep_cons, keep_nil, keep_done, List.contains_lit_cons, List.contains_lit_nil, List.erase_lit_cons, List.erase_lit_nil, reduceIte, Nat.reduceEqDiff, Bool.false_eq_true]; rfl) ?_
                    refine wps_region (by rw [hnt]; rfl) 0 ?_
                    simp only [↓kOps_app, ↓evOps_nil, ↓evOps_cons, go_sem, Int.reduceAdd, Int.reduceBEq, Int.reduceEq, Int.reduceLE, Int.reduceLT, Int.reduceNe, Int.reduceSub, Int.reduceToNat, Nat.reduceAdd, Nat.reduceBEq, Nat.reduceEqDiff, Nat.reduceLT, Nat.reduceLeDiff, Nat.reduceMul, Nat.reduceSub, reduceCtorEq, reduceIte, hw1]
                    repeat (refine And.intro ?_ ?_; · first | rfl | omega | assumption | (simp; done) | (simp; omega) | (intros; omega) | (intros; simp_all; done) | (intros; simp_all; omega) | (and_intros <;> first | rfl | omega | assumption | (simp; done)))
                    exact hKL _ _ (acts.length - (i + 1)) _ _ (entL hc0 [some 0, some 1, some 2] rfl rfl (by simp only [go_sem, reduceIte, Nat.reduceEqDiff, Nat.reduceAdd, Nat.reduceLT]) (by simp only [retSV, SV.mv, mvs, subL, List.map_nil, List.map_cons, SObj.mv, posOf, back, List.length_cons, List.length_nil, List.getElem?_cons_zero, List.getElem?_cons_succ, Option.map_some, Nat.reduceAdd, Nat.reduceLT, Nat.zero_add, Nat.lt_add_one, List.getD_cons_zero, List.getD_cons_succ, reduceIte, Nat.reduceEqDiff, Env.get, Env.put, and_true, true_and, implies_true]; rfl)) ⟨i + 1, u, rfl, by omega, by omega, ⟨by omega, by omega⟩, .inr ⟨o, ⟨by omega, by omega⟩, ho2, rfl, rfl⟩⟩ (by omega)
              · refine wps_skip ?_
                refine hK43 _ _ ?_
                refine hK38 _ _ ?_
                refine hK37 _ _ ?_
                refine wps_region (by rw [hnt]; rfl) 0 ?_
                simp only [↓kOps_app, ↓evOps_nil, ↓evOps_cons, go_sem, Int.reduceAdd, Int.reduceBEq, Int.reduceEq, Int.reduceLE, Int.reduceLT, Int.reduceNe, Int.reduceSub, Int.reduceToNat, Nat.reduceAdd, Nat.reduceBEq, Nat.reduceEqDiff, Nat.reduceLT, Nat.reduceLeDiff, Nat.reduceMul, Nat.reduceSub, reduceCtorEq, reduceIte, hw1]
                repeat (refine And.intro ?_ ?_; · first | rfl | omega | assumption | (simp; done) | (simp; omega) | (intros; omega) | (intros; simp_all; done) | (intros; simp_all; omega) | (and_intros <;> first | rfl | omega | assumption | (simp; done)))
                exact hKL _ _ (acts.length - (i + 1)) _ _ (entL hc0 [some 0, some 1, some 2] rfl rfl (by simp only [go_sem, reduceIte, Nat.reduceEqDiff, Nat.reduceAdd, Nat.reduceLT]) (by simp only [retSV, SV.mv, mvs, subL, List.map_nil, List.map_cons, SObj.mv, posOf, back, List.length_cons, List.length_nil, List.getElem?_cons_zero, List.getElem?_cons_succ, Option.map_some, Nat.reduceAdd, Nat.reduceLT, Nat.zero_add, Nat.lt_add_one, List.getD_cons_zero, List.getD_cons_succ, reduceIte, Nat.reduceEqDiff, Env.get, Env.put, and_true, true_and, implies_true]; rfl)) ⟨i + 1, u, rfl, by omega, by omega, ⟨by omega, by omega⟩, .inr ⟨o, ⟨by omega, by omega⟩, ho2, rfl, rfl⟩⟩ (by omega)
        refine wps_seq fun K56 hK56 => ?_
        refine wps_region (by rw [hnt]; rfl) 0 ?_
        simp only [↓kOps_app, ↓evOps_nil, ↓evOps_cons, go_sem, Int.reduceAdd, Int.reduceBEq, Int.reduceEq, Int.reduceLE, Int.reduceLT, Int.reduceNe, Int.reduceSub, Int.reduceToNat, Nat.reduceAdd, Nat.reduceBEq, Nat.reduceEqDiff, Nat.reduceLT, Nat.reduceLeDiff, Nat.reduceMul, Nat.reduceSub, reduceCtorEq, reduceIte]
        repeat (refine And.intro ?_ ?_; · first | rfl | omega | assumption | (simp; done) | (simp; omega) | (intros; omega) | (intros; simp_all; done) | (intros; simp_all; omega) | (and_intros <;> first | rfl | omega | assumption | (simp; done)))
        refine hK56 _ _ ?_
        refine wps_cond (b := _) rfl (fun h3 => ?_) (fun h3 => ?_)
        · simp at h3
          refine wps_keep [1, 2, 7, 8, 9, 10, 11] (by simp only [keep_cons, keep_nil, keep_done, List.contains_lit_cons, List.contains_lit_nil, List.erase_lit_cons, List.erase_lit_nil, reduceIte, Nat.reduceEqDiff, Bool.false_eq_true]; rfl) ?_
          refine wps_region (by rw [hnt]; rfl) 0 ?_
          simp only [↓kOps_app, ↓evOps_nil, ↓evOps_cons, go_sem, Int.reduceAdd, Int.reduceBEq, Int.reduceEq, Int.reduceLE, Int.reduceLT, Int.reduceNe, Int.reduceSub, Int.reduceToNat, Nat.reduceAdd, Nat.reduceBEq, Nat.reduceEqDiff, Nat.reduceLT, Nat.reduceLeDiff, Nat.reduceMul, Nat.reduceSub, reduceCtorEq, reduceIte]
          repeat (refine And.intro ?_ ?_; · first | rfl | omega | assumption | (simp; done) | (simp; omega) | (intros; omega) | (intros; simp_all; done) | (intros; simp_all; omega) | (and_intros <;> first | rfl | omega | assumption | (simp; done)))
          exact hJ3 ((acat acts i).ws.take 10) (by simp; omega) _ _ (entL hc0 [some 0, some 1, some 2, some 3] rfl rfl (by simp only [go_sem, reduceIte, Nat.reduceEqDiff, Nat.reduceAdd, Nat.reduceLT]) (by simp only [retSV, SV.mv, mvs, subL, List.map_nil, List.map_cons, SObj.mv, posOf, back, List.length_cons, List.length_nil, List.getElem?_cons_zero, List.getElem?_cons_succ, Option.map_some, Nat.reduceAdd, Nat.reduceLT, Nat.zero_add, Nat.lt_add_one, List.getD_cons_zero, List.getD_cons_succ, reduceIte, Nat.reduceEqDiff, Env.get, Env.put, and_true, true_and, implies_true, List.map_take]))
        · refine wps_skip ?_
          simp at h3
          exact hJ3 (acat acts i).ws (by omega) _ _ (entL hc0 [some 0, some 1, some 2, some 3] rfl rfl (by simp only [go_sem, reduceIte, Nat.reduceEqDiff, Nat.reduceAdd, Nat.reduceLT]) (by simp only [go_sem, reduceIte, Nat.reduceEqDiff, Nat.reduceAdd, Nat.reduceLT]))
      · refine wps_exit ?_
        simp only [reduceIte, Nat.reduceEqDiff]
        refine hK8 _ _ ?_
        refine hK6 _ _ ?_
        refine wps_seq fun K57 hK57 => ?_
        refine wps_region (by rw [hnt]; rfl) 0 ?_
        simp only [↓kOps_app, ↓evOps_nil, ↓evOps_cons, go_sem, Int.reduceAdd, Int.reduceBEq, Int.reduceEq, Int.reduceLE, Int.reduceLT, Int.reduceNe, Int.reduceSub, Int.reduceToNat, Nat.reduceAdd, Nat.reduceBEq, Nat.reduceEqDiff, Nat.reduceLT, Nat.reduceLeDiff, Nat.reduceMul, Nat.reduceSub, reduceCtorEq, reduceIte, ht1]
        repeat (refine And.intro ?_ ?_; · first | rfl | omega | assumption | (simp; done) | (simp; omega) | (intros; omega) | (intros; simp_all; done) | (intros; simp_all; omega) | (and_intros <;> first | rfl | omega | assumption | (simp; done)))
        refine callT_at [1, 2] [_, _] htr rfl rfl ⟨rfl, rfl, trivial⟩ (by simp only [go_sem, reduceIte, Nat.reduceEqDiff, Nat.reduceAdd, Nat.reduceLT]) (by simp only [go_sem, reduceIte, Nat.reduceEqDiff, Nat.reduceAdd, Nat.reduceLT]) rfl (fun N => by (try simp only [go_sem, reduceIte, Nat.reduceEqDiff, Nat.reduceAdd, Nat.reduceLT]); try rfl) (fun N => by (try simp only [go_sem, reduceIte, Nat.reduceEqDiff, Nat.reduceAdd, Nat.reduceLT]); try rfl) ?_
        simp only [↓kOps_app, ↓evOps_nil, ↓evOps_cons, go_sem, Int.reduceAdd, Int.reduceBEq, Int.reduceEq, Int.reduceLE, Int.reduceLT, Int.reduceNe, Int.reduceSub, Int.reduceToNat, Nat.reduceAdd, Nat.reduceBEq, Nat.reduceEqDiff, Nat.reduceLT, Nat.reduceLeDiff, Nat.reduceMul, Nat.reduceSub, reduceCtorEq, reduceIte, ht1]
        repeat (refine And.intro ?_ ?_; · first | rfl | omega | assumption | (simp; done) | (simp; omega) | (intros; omega) | (intros; simp_all; done) | (intros; simp_all; omega) | (and_intros <;> first | rfl | omega | assumption | (simp; done)))
        refine hK57 _ _ ?_
        refine wps_ret ?_
        refine retL [] rfl ⟨trivial, trivial⟩ rfl rfl ?_
        simp only [retSV, SV.mv, mvs, subL, List.map_nil, List.map_cons, SObj.mv, posOf, back, List.length_cons, List.length_nil, List.getElem?_cons_zero, List.getElem?_cons_succ, Option.map_some, Nat.reduceAdd, Nat.reduceLT, Nat.zero_add, Nat.lt_add_one, List.getD_cons_zero, List.getD_cons_succ, reduceIte, Nat.reduceEqDiff, Env.get, Env.put, and_true, true_and, implies_true]
end Go.Proofs.Ytildlpgekbknmaa
