import Derived.Test.YtiipndbcddgjlaaJ22
import Derived.Test.YtiipndbcddgjlaaJ15
set_option linter.all false
set_option linter.unusedSimpArgs false
set_option linter.unusedVariables false
namespace Go.Proofs.Ytiipndbcddgjlaa
open Go.Nm

def rloadS (R : Rj) (b : Bt) : (Int × Int) × Rj :=
  if chk b.ws != 0 then ((0, chk b.ws), R)
  else if decide (9223372036854775807 ≤ R.last) then ((0, 192), R)
  else ((R.last + 1, 0), tellS R b (R.last + 1) 0 (rin R b.c && decide (b.r < (rget R b.c).1)))

set_option maxHeartbeats 4000000 in
theorem rload_ok (R : Rj) (hR : R.OK) (h0 : 0 ≤ R.last) (cl r s : Int) (ws : List Wt) : CallT Try.prog 17 [.agg [.u (.i .u64 R.first), .u (.i .u64 R.last), .u (.fz (R.L.map srow) R.q), .u (.fz (R.late.map lrow) R.p)], .agg (bcells cl r s ws none)] []
    fun x σ => x = .tup [.agg [.u (.i .u64 (rloadS R ⟨cl, r, s, ws⟩).2.first), .u (.i .u64 (rloadS R ⟨cl, r, s, ws⟩).2.last), .u (.fz ((rloadS R ⟨cl, r, s, ws⟩).2.L.map srow) (rloadS R ⟨cl, r, s, ws⟩).2.q), .u (.fz ((rloadS R ⟨cl, r, s, ws⟩).2.late.map lrow) (rloadS R ⟨cl, r, s, ws⟩).2.p)], .u (.i .u64 (rloadS R ⟨cl, r, s, ws⟩).1.1), .u (.i .i64 (rloadS R ⟨cl, r, s, ws⟩).1.2)] ∧
      σ = [] := by
  have hck := rcheck_ok cl r s ws none
  have hse := rseen_ok R hR cl
  unfold bcells at hck
  unfold bcells rloadS
  simp only
  refine callT_ofL 46 [.cell 4 52, .tmp 5, .tmp 6] Try.func17 rfl Try.ntmps17 rfl (Nat.le_of_ble_eq_true rfl) fun c hnt hc0 => ?_
  refine wps_seq fun K1 hK1 => ?_
  refine wps_region (by rw [hnt]; rfl) 3 ?_
  simp only [↓kOps_app, ↓evOps_nil, ↓evOps_cons, go_sem, Int.reduceAdd, Int.reduceBEq, Int.reduceEq, Int.reduceLE, Int.reduceLT, Int.reduceNe, Int.reduceSub, Int.reduceToNat, Nat.reduceAdd, Nat.reduceBEq, Nat.reduceEqDiff, Nat.reduceLT, Nat.reduceLeDiff, Nat.reduceMul, Nat.reduceSub, reduceCtorEq, reduceIte]
  repeat (refine And.intro ?_ ?_; · first | rfl | omega | assumption | (simp; done) | (simp; omega) | (intros; omega) | (intros; simp_all; done) | (intros; simp_all; omega) | (and_intros <;> first | rfl | omega | assumption | (simp; done)))
  refine hK1 _ _ ?_
  refine wps_seq fun K2 hK2 => ?_
  refine wps_seq fun K3 hK3 => ?_
  refine wps_region (by rw [hnt]; rfl) 0 ?_
  simp only [↓kOps_app, ↓evOps_nil, ↓evOps_cons, go_sem, Int.reduceAdd, Int.reduceBEq, Int.reduceEq, Int.reduceLE, Int.reduceLT, Int.reduceNe, Int.reduceSub, Int.reduceToNat, Nat.reduceAdd, Nat.reduceBEq, Nat.reduceEqDiff, Nat.reduceLT, Nat.reduceLeDiff, Nat.reduceMul, Nat.reduceSub, reduceCtorEq, reduceIte]
  repeat (refine And.intro ?_ ?_; · first | rfl | omega | assumption | (simp; done) | (simp; omega) | (intros; omega) | (intros; simp_all; done) | (intros; simp_all; omega) | (and_intros <;> first | rfl | omega | assumption | (simp; done)))
  refine callT_at [] [] hck rfl rfl trivial (by simp only [go_sem, reduceIte, Nat.reduceEqDiff, Nat.reduceAdd, Nat.reduceLT]) (by simp only [go_sem, reduceIte, Nat.reduceEqDiff, Nat.reduceAdd, Nat.reduceLT]) rfl (fun N => by (try simp only [go_sem, reduceIte, Nat.reduceEqDiff, Nat.reduceAdd, Nat.reduceLT]); try rfl) (fun N => by (try simp only [go_sem, reduceIte, Nat.reduceEqDiff, Nat.reduceAdd, Nat.reduceLT]); try rfl) ?_
  simp only [↓kOps_app, ↓evOps_nil, ↓evOps_cons, go_sem, Int.reduceAdd, Int.reduceBEq, Int.reduceEq, Int.reduceLE, Int.reduceLT, Int.reduceNe, Int.reduceSub, Int.reduceToNat, Nat.reduceAdd, Nat.reduceBEq, Nat.reduceEqDiff, Nat.reduceLT, Nat.reduceLeDiff, Nat.reduceMul, Nat.reduceSub, reduceCtorEq, reduceIte]
  repeat (refine And.intro ?_ ?_; · first | rfl | omega | assumption | (simp; done) | (simp; omega) | (intros; omega) | (intros; simp_all; done) | (intros; simp_all; omega) | (and_intros <;> first | rfl | omega | assumption | (simp; done)))
  refine hK3 _ _ ?_
  refine wps_seq fun K4 hK4 => ?_
  refine wps_region (by rw [hnt]; rfl) 0 ?_
  simp only [↓kOps_app, ↓evOps_nil, ↓evOps_cons, go_sem, Int.reduceAdd, Int.reduceBEq, Int.reduceEq, Int.reduceLE, Int.reduceLT, Int.reduceNe, Int.reduceSub, Int.reduceToNat, Nat.reduceAdd, Nat.reduceBEq, Nat.reduceEqDiff, Nat.reduceLT, Nat.reduceLeDiff, Nat.reduceMul, Nat.reduceSub, reduceCtorEq, reduceIte]
  repeat (refine And.intro ?_ ?_; · first | rfl | omega | assumption | (simp; done) | (simp; omega) | (intros; omega) | (intros; simp_all; done) | (intros; simp_all; omega) | (and_intros <;> first | rfl | omega | assumption | (simp; done)))
  refine hK4 _ _ ?_
  refine wps_cond (b := _) rfl (fun h1 => ?_) (fun h1 => ?_)
  · refine wps_seq fun K5 hK5 => ?_
    refine wps_region (by rw [hnt]; rfl) 0 ?_
    simp only [↓kOps_app, ↓evOps_nil, ↓evOps_cons, go_sem, Int.reduceAdd, Int.reduceBEq, Int.reduceEq, Int.reduceLE, Int.reduceLT, Int.reduceNe, Int.reduceSub, Int.reduceToNat, Nat.reduceAdd, Nat.reduceBEq, Nat.reduceEqDiff, Nat.reduceLT, Nat.reduceLeDiff, Nat.reduceMul, Nat.reduceSub, reduceCtorEq, reduceIte]
    repeat (refine And.intro ?_ ?_; · first | rfl | omega | assumption | (simp; done) | (simp; omega) | (intros; omega) | (intros; simp_all; done) | (intros; simp_all; omega) | (and_intros <;> first | rfl | omega | assumption | (simp; done)))
    refine hK5 _ _ ?_
    refine wps_ret ?_
    refine retL [] (by simp only [resAll, resSV, ↓kOps_app, ↓evOps_nil, ↓evOps_cons, go_sem, Int.reduceAdd, Int.reduceBEq, Int.reduceEq, Int.reduceLE, Int.reduceLT, Int.reduceNe, Int.reduceSub, Int.reduceToNat, Nat.reduceAdd, Nat.reduceBEq, Nat.reduceEqDiff, Nat.reduceLT, Nat.reduceLeDiff, Nat.reduceMul, Nat.reduceSub, reduceCtorEq, reduceIte]; rfl) (by simp only [resObs, resOb, ↓kOps_app, ↓evOps_nil, ↓evOps_cons, go_sem, Int.reduceAdd, Int.reduceBEq, Int.reduceEq, Int.reduceLE, Int.reduceLT, Int.reduceNe, Int.reduceSub, Int.reduceToNat, Nat.reduceAdd, Nat.reduceBEq, Nat.reduceEqDiff, Nat.reduceLT, Nat.reduceLeDiff, Nat.reduceMul, Nat.reduceSub, reduceCtorEq, reduceIte]) rfl rfl ?_
    simp only [retSV, SV.mv, mvs, subL, List.map_nil, List.map_cons, SObj.mv, posOf, back, List.length_cons, List.length_nil, List.getElem?_cons_zero, List.getElem?_cons_succ, Option.map_some, Nat.reduceAdd, Nat.reduceLT, Nat.zero_add, Nat.lt_add_one, List.getD_cons_zero, List.getD_cons_succ, reduceIte, Nat.reduceEqDiff, Env.get, Env.put, and_true, true_and, implies_true, h1, Bool.false_eq_true, reduceIte]
  · refine wps_skip ?_
    refine hK2 _ _ ?_
    refine wps_seq fun K6 hK6 => ?_
    refine wps_seq fun K7 hK7 => ?_
    refine wps_region (by rw [hnt]; rfl) 0 ?_
    simp only [↓kOps_app, ↓evOps_nil, ↓evOps_cons, go_sem, Int.reduceAdd, Int.reduceBEq, Int.reduceEq, Int.reduceLE, Int.reduceLT, Int.reduceNe, Int.reduceSub, Int.reduceToNat, Nat.reduceAdd, Nat.reduceBEq, Nat.reduceEqDiff, Nat.reduceLT, Nat.reduceLeDiff, Nat.reduceMul, Nat.reduceSub, reduceCtorEq, reduceIte]
    repeat (refine And.intro ?_ ?_; · first | rfl | omega | assumption | (simp; done) | (simp; omega) | (intros; omega) | (intros; simp_all; done) | (intros; simp_all; omega) | (and_intros <;> first | rfl | omega | assumption | (simp; done)))
    refine hK7 _ _ ?_
    refine wps_cond (b := _) rfl (fun h2 => ?_) (fun h2 => ?_)
    · refine wps_seq fun K8 hK8 => ?_
      refine wps_region (by rw [hnt]; rfl) 0 ?_
      simp only [↓kOps_app, ↓evOps_nil, ↓evOps_cons, go_sem, Int.reduceAdd, Int.reduceBEq, Int.reduceEq, Int.reduceLE, Int.reduceLT, Int.reduceNe, Int.reduceSub, Int.reduceToNat, Nat.reduceAdd, Nat.reduceBEq, Nat.reduceEqDiff, Nat.reduceLT, Nat.reduceLeDiff, Nat.reduceMul, Nat.reduceSub, reduceCtorEq, reduceIte]
      repeat (refine And.intro ?_ ?_; · first | rfl | omega | assumption | (simp; done) | (simp; omega) | (intros; omega) | (intros; simp_all; done) | (intros; simp_all; omega) | (and_intros <;> first | rfl | omega | assumption | (simp; done)))
      refine hK8 _ _ ?_
      refine wps_ret ?_
      refine retL [] (by simp only [resAll, resSV, ↓kOps_app, ↓evOps_nil, ↓evOps_cons, go_sem, Int.reduceAdd, Int.reduceBEq, Int.reduceEq, Int.reduceLE, Int.reduceLT, Int.reduceNe, Int.reduceSub, Int.reduceToNat, Nat.reduceAdd, Nat.reduceBEq, Nat.reduceEqDiff, Nat.reduceLT, Nat.reduceLeDiff, Nat.reduceMul, Nat.reduceSub, reduceCtorEq, reduceIte]; rfl) (by simp only [resObs, resOb, ↓kOps_app, ↓evOps_nil, ↓evOps_cons, go_sem, Int.reduceAdd, Int.reduceBEq, Int.reduceEq, Int.reduceLE, Int.reduceLT, Int.reduceNe, Int.reduceSub, Int.reduceToNat, Nat.reduceAdd, Nat.reduceBEq, Nat.reduceEqDiff, Nat.reduceLT, Nat.reduceLeDiff, Nat.reduceMul, Nat.reduceSub, reduceCtorEq, reduceIte]) rfl rfl ?_
      simp only [retSV, SV.mv, mvs, subL, List.map_nil, List.map_cons, SObj.mv, posOf, back, List.length_cons, List.length_nil, List.getElem?_cons_zero, List.getElem?_cons_succ, Option.map_some, Nat.reduceAdd, Nat.reduceLT, Nat.zero_add, Nat.lt_add_one, List.getD_cons_zero, List.getD_cons_succ, reduceIte, Nat.reduceEqDiff, Env.get, Env.put, and_true, true_and, implies_true, h1, h2, Bool.false_eq_true, reduceIte]
    · have hlast : R.last < 9223372036854775807 := by simpa using h2
      have hwl : IntKind.u64.wrap (R.last + 1) = R.last + 1 := wrapu64 (by omega) (by omega)
      have hte := tell_ok R hR cl r s ws (R.last + 1) 0 (rin R cl && decide (r < (rget R cl).1))
      unfold bcells at hte
      refine wps_skip ?_
      refine hK6 _ _ ?_
      refine wps_seq fun K9 hK9 => ?_
      refine wps_region (by rw [hnt]; rfl) 1 ?_
      simp only [↓kOps_app, ↓evOps_nil, ↓evOps_cons, go_sem, Int.reduceAdd, Int.reduceBEq, Int.reduceEq, Int.reduceLE, Int.reduceLT, Int.reduceNe, Int.reduceSub, Int.reduceToNat, Nat.reduceAdd, Nat.reduceBEq, Nat.reduceEqDiff, Nat.reduceLT, Nat.reduceLeDiff, Nat.reduceMul, Nat.reduceSub, reduceCtorEq, reduceIte]
      repeat (refine And.intro ?_ ?_; · first | rfl | omega | assumption | (simp; done) | (simp; omega) | (intros; omega) | (intros; simp_all; done) | (intros; simp_all; omega) | (and_intros <;> first | rfl | omega | assumption | (simp; done)))
      refine callT_at [] [] hse rfl rfl trivial (by simp only [go_sem, reduceIte, Nat.reduceEqDiff, Nat.reduceAdd, Nat.reduceLT]) (by simp only [go_sem, reduceIte, Nat.reduceEqDiff, Nat.reduceAdd, Nat.reduceLT]) rfl (fun N => by (try simp only [go_sem, reduceIte, Nat.reduceEqDiff, Nat.reduceAdd, Nat.reduceLT]); try rfl) (fun N => by (try simp only [go_sem, reduceIte, Nat.reduceEqDiff, Nat.reduceAdd, Nat.reduceLT]); try rfl) ?_
      simp only [↓kOps_app, ↓evOps_nil, ↓evOps_cons, go_sem, Int.reduceAdd, Int.reduceBEq, Int.reduceEq, Int.reduceLE, Int.reduceLT, Int.reduceNe, Int.reduceSub, Int.reduceToNat, Nat.reduceAdd, Nat.reduceBEq, Nat.reduceEqDiff, Nat.reduceLT, Nat.reduceLeDiff, Nat.reduceMul, Nat.reduceSub, reduceCtorEq, reduceIte]
      repeat (refine And.intro ?_ ?_; · first | rfl | omega | assumption | (simp; done) | (simp; omega) | (intros; omega) | (intros; simp_all; done) | (intros; simp_all; omega) | (and_intros <;> first | rfl | omega | assumption | (simp; done)))
      refine hK9 _ _ ?_
      refine wps_seq fun K10 hK10 => ?_
      refine wps_region (by rw [hnt]; rfl) 0 ?_
      simp only [↓kOps_app, ↓evOps_nil, ↓evOps_cons, go_sem, Int.reduceAdd, Int.reduceBEq, Int.reduceEq, Int.reduceLE, Int.reduceLT, Int.reduceNe, Int.reduceSub, Int.reduceToNat, Nat.reduceAdd, Nat.reduceBEq, Nat.reduceEqDiff, Nat.reduceLT, Nat.reduceLeDiff, Nat.reduceMul, Nat.reduceSub, reduceCtorEq, reduceIte, hwl]
      repeat (refine And.intro ?_ ?_; · first | rfl | omega | assumption | (simp; done) | (simp; omega) | (intros; omega) | (intros; simp_all; done) | (intros; simp_all; omega) | (and_intros <;> first | rfl | omega | assumption | (simp; done)))
      refine hK10 _ _ ?_
      refine wps_seq fun K11 hK11 => ?_
      refine wps_region (by rw [hnt]; rfl) 0 ?_
      simp only [↓kOps_app, ↓evOps_nil, ↓evOps_cons, go_sem, Int.reduceAdd, Int.reduceBEq, Int.reduceEq, Int.reduceLE, Int.reduceLT, Int.reduceNe, Int.reduceSub, Int.reduceToNat, Nat.reduceAdd, Nat.reduceBEq, Nat.reduceEqDiff, Nat.reduceLT, Nat.reduceLeDiff, Nat.reduceMul, Nat.reduceSub, reduceCtorEq, reduceIte]
      repeat (refine And.intro ?_ ?_; · first | rfl | omega | assumption | (simp; done) | (simp; omega) | (intros; omega) | (intros; simp_all; done) | (intros; simp_all; omega) | (and_intros <;> first | rfl | omega | assumption | (simp; done)))
      refine callT_at [] [] hte rfl rfl trivial (by simp only [go_sem, reduceIte, Nat.reduceEqDiff, Nat.reduceAdd, Nat.reduceLT]) (by simp only [go_sem, reduceIte, Nat.reduceEqDiff, Nat.reduceAdd, Nat.reduceLT]) rfl (fun N => by (try simp only [go_sem, reduceIte, Nat.reduceEqDiff, Nat.reduceAdd, Nat.reduceLT]); try rfl) (fun N => by (try simp only [go_sem, reduceIte, Nat.reduceEqDiff, Nat.reduceAdd, Nat.reduceLT]); try rfl) ?_
      simp only [↓kOps_app, ↓evOps_nil, ↓evOps_cons, go_sem, Int.reduceAdd, Int.reduceBEq, Int.reduceEq, Int.reduceLE, Int.reduceLT, Int.reduceNe, Int.reduceSub, Int.reduceToNat, Nat.reduceAdd, Nat.reduceBEq, Nat.reduceEqDiff, Nat.reduceLT, Nat.reduceLeDiff, Nat.reduceMul, Nat.reduceSub, reduceCtorEq, reduceIte]
      repeat (refine And.intro ?_ ?_; · first | rfl | omega | assumption | (simp; done) | (simp; omega) | (intros; omega) | (intros; simp_all; done) | (intros; simp_all; omega) | (and_intros <;> first | rfl | omega | assumption | (simp; done)))
      refine hK11 _ _ ?_
      refine wps_ret ?_
      refine retL [] (by simp only [resAll, resSV, ↓kOps_app, ↓evOps_nil, ↓evOps_cons, go_sem, Int.reduceAdd, Int.reduceBEq, Int.reduceEq, Int.reduceLE, Int.reduceLT, Int.reduceNe, Int.reduceSub, Int.reduceToNat, Nat.reduceAdd, Nat.reduceBEq, Nat.reduceEqDiff, Nat.reduceLT, Nat.reduceLeDiff, Nat.reduceMul, Nat.reduceSub, reduceCtorEq, reduceIte]; rfl) (by simp only [resObs, resOb, ↓kOps_app, ↓evOps_nil, ↓evOps_cons, go_sem, Int.reduceAdd, Int.reduceBEq, Int.reduceEq, Int.reduceLE, Int.reduceLT, Int.reduceNe, Int.reduceSub, Int.reduceToNat, Nat.reduceAdd, Nat.reduceBEq, Nat.reduceEqDiff, Nat.reduceLT, Nat.reduceLeDiff, Nat.reduceMul, Nat.reduceSub, reduceCtorEq, reduceIte]) rfl rfl ?_
      simp only [retSV, SV.mv, mvs, subL, List.map_nil, List.map_cons, SObj.mv, posOf, back, List.length_cons, List.length_nil, List.getElem?_cons_zero, List.getElem?_cons_succ, Option.map_some, Nat.reduceAdd, Nat.reduceLT, Nat.zero_add, Nat.lt_add_one, List.getD_cons_zero, List.getD_cons_succ, reduceIte, Nat.reduceEqDiff, Env.get, Env.put, and_true, true_and, implies_true, h1, h2, Bool.false_eq_true, reduceIte]

/-! ### the two judges say the same -/
theorem sat_left {L : List Sd} {x : Sd} {i : Nat} (h : i < L.length) : sat (L ++ [x]) i = sat L i := by
  rw [sat, sat, List.getD_eq_getElem?_getD, List.getD_eq_getElem?_getD, List.getElem?_append_left h]
theorem sat_last {L : List Sd} {x : Sd} : sat (L ++ [x]) L.length = x := by
  rw [sat, List.getD_eq_getElem?_getD, List.getElem?_append_right (Nat.le_refl _)]; simp
theorem lat_left {l : List Bool} {x : Bool} {i : Nat} (h : i < l.length) : lat (l ++ [x]) i = lat l i := by
  rw [lat, lat, List.getD_eq_getElem?_getD, List.getD_eq_getElem?_getD, List.getElem?_append_left h]
theorem lat_last {l : List Bool} {x : Bool} {n : Nat} (h : l.length = n) : lat (l ++ [x]) n = x := by
  subst h
  rw [lat, List.getD_eq_getElem?_getD, List.getElem?_append_right (Nat.le_refl _)]; simp

theorem rseenI_tell (L : List Sd) (l : List Bool) (x : Sd) (b : Bool) (c : Int) (hl : l.length = L.length) : ∀ n, n ≤ L.length → rseenI (L ++ [x]) (l ++ [b]) c n = rseenI L l c n
  | 0, _ => rfl
  | n + 1, h => by
    rw [rseenI, rseenI, sat_left (by omega), lat_left (by omega), rseenI_tell L l x b c hl n (by omega)]

theorem rseen_tell (R : Rj) (hR : R.OK) (b : Bt) (at_ e : Int) (late : Bool) (c : Int) : rseen (tellS R b at_ e late) c = if b.c == c && !late then some (b.r, at_, e) else rseen R c := by
  unfold rseen tellS
  simp only [List.length_append, List.length_singleton]
  rw [rseenI, sat_last, lat_last hR.len, rseenI_tell R.L R.late _ _ c hR.len _ (Nat.le_refl _)]

theorem wlI_append (key : List UInt8) (L : List Sd) (x : Sd) : ∀ (f i : Nat) (a : Int), i + f = L.length → wlI (L ++ [x]) key (f + 1) i a = wkI x key x.b.ws.length 0 (wlI L key f i a)
  | 0, i, a, h => by
    have : i = L.length := by omega
    subst this
    simp only [wlI, sat_last, Nat.zero_add]
  | f + 1, i, a, h => by
    rw [wlI, wlI_append key L x f (i + 1) _ (by omega), sat_left (by omega)]
    conv => rhs; rw [wlI]

theorem wkI_ok (x : Sd) (key : List UInt8) : ∀ (f k : Nat) (a : Int),
    ((∃ j, k ≤ j ∧ j < k + f ∧ x.e = 0 ∧ (wat x.b.ws j).1 = key) → wkI x key f k a = x.at_) ∧ ((∀ j, k ≤ j → j < k + f → ¬ (x.e = 0 ∧ (wat x.b.ws j).1 = key)) → wkI x key f k a = a)
  | 0, k, a => ⟨fun ⟨j, h1, h2, _⟩ => by omega, fun _ => rfl⟩
  | f + 1, k, a => by
    obtain ⟨ih1, ih2⟩ := wkI_ok x key f (k + 1) (if x.e == 0 && (wat x.b.ws k).1 == key then x.at_ else a)
    rw [wkI]
    constructor
    · rintro ⟨j, h1, h2, h3⟩
      by_cases hex : ∃ j, k + 1 ≤ j ∧ j < k + 1 + f ∧ x.e = 0 ∧ (wat x.b.ws j).1 = key
      · exact ih1 hex
      · have hj : j = k := by
          by_cases hj : j = k
          · exact hj
          · exact absurd ⟨j, by omega, by omega, h3⟩ hex
        subst hj
        rw [ih2 fun j' h1' h2' h3' => hex ⟨j', h1', h2', h3'⟩, if_pos (by simpa using h3)]
    · intro h
      rw [ih2 fun j h1 h2 => h j (by omega) (by omega), if_neg (by simpa using h k (Nat.le_refl _) (by omega))]

theorem rwhen_tell (R : Rj) (b : Bt) (at_ e : Int) (late : Bool) (key : List UInt8) :
    ((∃ j, j < b.ws.length ∧ e = 0 ∧ (wat b.ws j).1 = key) → rwhen (tellS R b at_ e late) key = at_) ∧ ((∀ j, j < b.ws.length → ¬ (e = 0 ∧ (wat b.ws j).1 = key)) → rwhen (tellS R b at_ e late) key = rwhen R key) := by
  unfold rwhen tellS
  simp only [List.length_append, List.length_singleton]
  rw [wlI_append key R.L _ R.L.length 0 0 (by omega)]
  obtain ⟨h1, h2⟩ := wkI_ok ⟨b, at_, e⟩ key b.ws.length 0 (wlI R.L key R.L.length 0 0)
  exact ⟨fun ⟨j, a, c⟩ => h1 ⟨j, Nat.zero_le _, by omega, c⟩, fun h => h2 fun j _ a => h j (by omega)⟩

structure RelJ (J : Jd) (R : Rj) : Prop where
  last : R.last = J.last
  lo : 0 ≤ J.last
  ks : ∀ k, rwhen R k = getK J.ks k
  ts : ∀ c, rseen R c = aget c J.ts
  ok : R.OK

theorem RelJ.rin {J : Jd} {R : Rj} (h : RelJ J R) (c : Int) : rin R c = inT J.ts c := by rw [Go.Proofs.Ytiipndbcddgjlaa.rin, h.ts]; rfl
theorem RelJ.rget {J : Jd} {R : Rj} (h : RelJ J R) (c : Int) : rget R c = getT J.ts c := by rw [Go.Proofs.Ytiipndbcddgjlaa.rget, h.ts]; rfl

theorem rwrt_iff (R : Rj) (ws : List Wt) (s : Int) : ∀ n, rwrt R ws s n = true ↔ ∃ j, j < n ∧ s < rwhen R (wat ws j).1
  | 0 => Iff.intro (fun h => by cases h) (fun h => by obtain ⟨j, h, _⟩ := h; omega)
  | n + 1 => by
    rw [rwrt, Bool.or_eq_true, rwrt_iff R ws s n]
    constructor
    · rintro (⟨j, h1, h2⟩ | h)
      · exact ⟨j, by omega, h2⟩
      · exact ⟨n, by omega, by simpa using h⟩
    · rintro ⟨j, h1, h2⟩
      by_cases he : j = n
      · subst he; exact .inr (by simpa using h2)
      · exact .inl ⟨j, by omega, h2⟩

theorem rel_wr {J : Jd} {R : Rj} (h : RelJ J R) (ws : List Wt) (s : Int) : rwrt R ws s ws.length = wrI J.ks ws s ws.length 0 := by
  rw [Bool.eq_iff_iff, rwrt_iff, wrI_iff]
  constructor
  · rintro ⟨j, h1, h2⟩; exact ⟨j, Nat.zero_le _, by omega, by rw [← h.ks]; exact h2⟩
  · rintro ⟨j, _, h1, h2⟩; exact ⟨j, by omega, by rw [h.ks]; exact h2⟩

theorem tell_OK {R : Rj} (hR : R.OK) (hf : R.L.length < 1000) (b : Bt) (hb : b.ws.length ≤ 10) (at_ e : Int) (late : Bool) : (tellS R b at_ e late).OK := by
  refine ⟨?_, ?_, ?_⟩
  · simp [tellS, hR.len]
  · simp [tellS]; omega
  · intro x hx
    rcases List.mem_append.1 hx with hx | hx
    · exact hR.ws x hx
    · rw [List.mem_singleton.1 hx]; exact hb

theorem rel_commit {J : Jd} {R : Rj} (h : RelJ J R) (hf : R.L.length < 1000) (b : Bt) (hb : b.ws.length ≤ 10) (late : Bool) (ts : List (Int × Int × Int × Int))
    (hts : ∀ c, aget c ts = if b.c == c && !late then some (b.r, J.last + 1, 0) else aget c J.ts) :
    RelJ ⟨J.last + 1, cmI b.ws (J.last + 1) b.ws.length 0 J.ks, ts⟩ (tellS R b (J.last + 1) 0 late) := by
  refine ⟨rfl, by have := h.lo; simp only; omega, fun k => ?_, fun c => ?_, tell_OK h.ok hf b hb _ _ _⟩
  · obtain ⟨a1, a2⟩ := rwhen_tell R b (J.last + 1) 0 late k
    obtain ⟨b1, b2⟩ := getK_cmI b.ws (J.last + 1) k b.ws.length 0 J.ks
    simp only
    by_cases hex : ∃ j, j < b.ws.length ∧ (wat b.ws j).1 = k
    · obtain ⟨j, h1, h2⟩ := hex
      rw [a1 ⟨j, h1, rfl, h2⟩, b1 ⟨j, Nat.zero_le _, by omega, h2⟩]
    · rw [a2 fun j h1 h2 => hex ⟨j, h1, h2.2⟩, b2 fun j _ h1 h2 => hex ⟨j, by omega, h2⟩, h.ks]
  · simp only
    rw [rseen_tell R h.ok, hts, h.ts]

theorem beq_comm' (a b : Int) : (a == b) = (b == a) := by
  rw [Bool.eq_iff_iff, beq_iff_eq, beq_iff_eq]; exact ⟨fun h => h.symm, fun h => h.symm⟩

theorem rel_say {J : Jd} {R : Rj} (h : RelJ J R) (hf : R.L.length < 1000) (cl r s : Int) (ws : List Wt) (hb : ws.length ≤ 10) :
    ∃ v J' R', sayS J cl r s ws = (v, J') ∧ rsayS R ⟨cl, r, s, ws⟩ = (v, R') ∧ RelJ J' R' ∧ R'.L.length ≤ R.L.length + 1 := by
  unfold sayS rsayS
  simp only [h.rin, h.rget, h.last, rel_wr h]
  split
  · exact ⟨_, _, _, rfl, rfl, h, by omega⟩
  · split
    · exact ⟨_, _, _, rfl, rfl, h, by omega⟩
    · split
      · exact ⟨_, _, _, rfl, rfl, h, by omega⟩
      · split
        · exact ⟨_, _, _, rfl, rfl, h, by omega⟩
        · split
          · exact ⟨_, _, _, rfl, rfl, h, by omega⟩
          · split
            · refine ⟨_, _, _, rfl, rfl, ⟨h.last, h.lo, fun k => ?_, fun c => ?_, tell_OK h.ok hf _ hb _ _ _⟩, by simp [tellS]⟩
              · obtain ⟨_, a2⟩ := rwhen_tell R ⟨cl, r, s, ws⟩ 0 191 false k
                rw [a2 fun j _ h2 => by omega, h.ks]
              · rw [rseen_tell R h.ok, h.ts, aget_aput]
                simp only [Bool.not_false, Bool.and_true]
                rw [beq_comm' cl c]
            · refine ⟨_, _, _, rfl, rfl, rel_commit h hf ⟨cl, r, s, ws⟩ hb false _ (fun c => ?_), by simp [tellS]⟩
              rw [aget_aput]
              simp only [Bool.not_false, Bool.and_true]
              rw [beq_comm' cl c]

theorem rel_load {J : Jd} {R : Rj} (h : RelJ J R) (hf : R.L.length < 1000) (cl r s : Int) (ws : List Wt) (hb : ws.length ≤ 10) :
    ∃ v J' R', loadS J cl r s ws = (v, J') ∧ rloadS R ⟨cl, r, s, ws⟩ = (v, R') ∧ RelJ J' R' ∧ R'.L.length ≤ R.L.length + 1 := by
  unfold loadS rloadS
  simp only [h.rin, h.rget, h.last]
  split
  · exact ⟨_, _, _, rfl, rfl, h, by omega⟩
  · split
    · exact ⟨_, _, _, rfl, rfl, h, by omega⟩
    · refine ⟨_, _, _, rfl, rfl, rel_commit h hf ⟨cl, r, s, ws⟩ hb _ _ (fun c => ?_), by simp [tellS]⟩
      simp only
      split
      · rename_i hc
        rw [aget_aput]
        have : (inT J.ts cl && decide (r < (getT J.ts cl).1)) = false := by
          simp at hc ⊢
          intro hi
          rcases hc with hc | hc
          · rw [hi] at hc; cases hc
          · omega
        rw [this, beq_comm' cl c]
        simp
      · rename_i hc
        have : (inT J.ts cl && decide (r < (getT J.ts cl).1)) = true := by
          simp at hc ⊢
          exact ⟨hc.1, by omega⟩
        rw [this]; simp
end Go.Proofs.Ytiipndbcddgjlaa
