import Derived.Test.YtiipndbcddgjlaaJ18
import Derived.Test.YtiipndbcddgjlaaNm25
set_option linter.all false
set_option linter.unusedSimpArgs false
set_option linter.unusedVariables false
namespace Go.Proofs.Ytiipndbcddgjlaa
open Go.Nm

/-! ### the reference's judge: all that was told, in a row -/
structure Sd where
  b : Bt
  at_ : Int
  e : Int
def srow (x : Sd) : List PV := [.i .u64 x.b.c, .i .u64 x.b.r, .i .u64 x.b.s, .fz (x.b.ws.map wrow) none, .i .u64 x.at_, .i .i64 x.e]
def sat (L : List Sd) (i : Nat) : Sd := L.getD i ⟨⟨0, 0, 0, []⟩, 0, 0⟩
def lrow (b : Bool) : List PV := [.b b]
def lat (l : List Bool) (i : Nat) : Bool := l.getD i false
theorem srow_at {L : List Sd} {i : Nat} (h : i < L.length) : (L.map srow).getD i [] = [.i .u64 (sat L i).b.c, .i .u64 (sat L i).b.r, .i .u64 (sat L i).b.s, .fz ((sat L i).b.ws.map wrow) none, .i .u64 (sat L i).at_, .i .i64 (sat L i).e] := by
  rw [List.getD_eq_getElem?_getD, List.getElem?_map, List.getElem?_eq_getElem h, sat, List.getD_eq_getElem?_getD, List.getElem?_eq_getElem h]; rfl
theorem lrow_at {l : List Bool} {i : Nat} (h : i < l.length) : (l.map lrow).getD i [] = [.b (lat l i)] := by
  rw [List.getD_eq_getElem?_getD, List.getElem?_map, List.getElem?_eq_getElem h, lat, List.getD_eq_getElem?_getD, List.getElem?_eq_getElem h]; rfl

structure Rj where
  first : Int
  last : Int
  L : List Sd
  late : List Bool
  q : Option Nat
  p : Option Nat
structure Rj.OK (R : Rj) : Prop where
  len : R.late.length = R.L.length
  few : R.L.length ≤ 1000
  ws : ∀ x ∈ R.L, x.b.ws.length ≤ 10

theorem sat_mem {L : List Sd} {i : Nat} (h : i < L.length) : sat L i ∈ L := by
  rw [sat, List.getD_eq_getElem?_getD, List.getElem?_eq_getElem h]; exact List.getElem_mem h

def rseenI (L : List Sd) (l : List Bool) (c : Int) : Nat → Option (Int × Int × Int)
  | 0 => none
  | n + 1 => if (sat L n).b.c == c && !lat l n then some ((sat L n).b.r, (sat L n).at_, (sat L n).e) else rseenI L l c n
def rseen (R : Rj) (c : Int) : Option (Int × Int × Int) := rseenI R.L R.late c R.L.length
def rin (R : Rj) (c : Int) : Bool := (rseen R c).isSome
def rget (R : Rj) (c : Int) : Int × Int × Int := (rseen R c).getD (0, 0, 0)

set_option maxHeartbeats 4000000 in
theorem rseen_ok (R : Rj) (hR : R.OK) (cl : Int) : CallT Try.prog 19 [.agg [.u (.i .u64 R.first), .u (.i .u64 R.last), .u (.fz (R.L.map srow) R.q), .u (.fz (R.late.map lrow) R.p)], .u (.i .u64 cl)] []
    fun r σ => r = .tup [.u (.i .u64 (rget R cl).1), .agg [.u (.i .u64 (rget R cl).2.1), .u (.i .i64 (rget R cl).2.2)], .u (.b (rin R cl))] ∧ σ = [] := by
  have hlen := hR.len
  have hfew := hR.few
  unfold rget rin rseen
  refine callT_ofL 47 [.tmp 4, .cell 5 34, .tmp 6] Try.func19 rfl Try.ntmps19 rfl (Nat.le_of_ble_eq_true rfl) fun c hnt hc0 => ?_
  refine wps_seq fun K1 hK1 => ?_
  refine wps_region (by rw [hnt]; rfl) 2 ?_
  simp only [↓kOps_app, ↓evOps_nil, ↓evOps_cons, go_sem, Int.reduceAdd, Int.reduceBEq, Int.reduceEq, Int.reduceLE, Int.reduceLT, Int.reduceNe, Int.reduceSub, Int.reduceToNat, Nat.reduceAdd, Nat.reduceBEq, Nat.reduceEqDiff, Nat.reduceLT, Nat.reduceLeDiff, Nat.reduceMul, Nat.reduceSub, reduceCtorEq, reduceIte]
  repeat (refine And.intro ?_ ?_; · first | rfl | omega | assumption | (simp; done) | (simp; omega) | (intros; omega) | (intros; simp_all; done) | (intros; simp_all; omega) | (and_intros <;> first | rfl | omega | assumption | (simp; done)))
  refine hK1 _ _ ?_
  refine wps_seq fun K2 hK2 => ?_
  refine wps_seq fun K3 hK3 => ?_
  have hw0 : IntKind.i64.wrap ((R.L.length : Int) - 1) = (R.L.length : Int) - 1 := wrap64 (by omega) (by omega)
  refine wps_region (by rw [hnt]; rfl) 0 ?_
  simp only [↓kOps_app, ↓evOps_nil, ↓evOps_cons, go_sem, Int.reduceAdd, Int.reduceBEq, Int.reduceEq, Int.reduceLE, Int.reduceLT, Int.reduceNe, Int.reduceSub, Int.reduceToNat, Nat.reduceAdd, Nat.reduceBEq, Nat.reduceEqDiff, Nat.reduceLT, Nat.reduceLeDiff, Nat.reduceMul, Nat.reduceSub, reduceCtorEq, reduceIte, hw0]
  repeat (refine And.intro ?_ ?_; · first | rfl | omega | assumption | (simp; done) | (simp; omega) | (intros; omega) | (intros; simp_all; done) | (intros; simp_all; omega) | (and_intros <;> first | rfl | omega | assumption | (simp; done)))
  refine hK3 _ _ ?_
  refine wps_blk fun K4 hK4 => ?_
  refine wps_loop (fun k e σ => ∃ n : Nat, k = n ∧ n ≤ R.L.length ∧ rseenI R.L R.late cl n = rseenI R.L R.late cl R.L.length ∧ e = [(1, .u (.i .u64 cl)), (2, .p 0 0), (5, .p 1 0), (7, .u (.i .i64 ((n : Int) - 1)))] ∧ σ = [.cells [.u (.i .u64 R.first), .u (.i .u64 R.last), .u (.fz (R.L.map srow) R.q), .u (.fz (R.late.map lrow) R.p)], .cells [.u (.i .u64 0), .u (.i .i64 0)]])
    (e0 := [(1, .u (.i .u64 cl)), (2, .p 0 0), (5, .p 1 0), (7, .u (.i .i64 ((R.L.length : Int) - 1)))]) (σ0 := [.cells [.u (.i .u64 R.first), .u (.i .u64 R.last), .u (.fz (R.L.map srow) R.q), .u (.fz (R.late.map lrow) R.p)], .cells [.u (.i .u64 0), .u (.i .i64 0)]])
    (entL hc0 [some 0, some 1] rfl rfl (by simp only [go_sem, reduceIte, Nat.reduceEqDiff, Nat.reduceAdd, Nat.reduceLT]) (by simp only [go_sem, reduceIte, Nat.reduceEqDiff, Nat.reduceAdd, Nat.reduceLT])) ⟨R.L.length, rfl, Nat.le_refl _, rfl, rfl, rfl⟩ fun KL k e1 σ1 hI hKL => ?_
  obtain ⟨n, hkn, hn, hch, rfl, rfl⟩ := hI
  refine wps_seq fun K5 hK5 => ?_
  refine wps_seq fun K6 hK6 => ?_
  refine wps_region (by rw [hnt]; rfl) 0 ?_
  simp only [↓kOps_app, ↓evOps_nil, ↓evOps_cons, go_sem, Int.reduceAdd, Int.reduceBEq, Int.reduceEq, Int.reduceLE, Int.reduceLT, Int.reduceNe, Int.reduceSub, Int.reduceToNat, Nat.reduceAdd, Nat.reduceBEq, Nat.reduceEqDiff, Nat.reduceLT, Nat.reduceLeDiff, Nat.reduceMul, Nat.reduceSub, reduceCtorEq, reduceIte]
  repeat (refine And.intro ?_ ?_; · first | rfl | omega | assumption | (simp; done) | (simp; omega) | (intros; omega) | (intros; simp_all; done) | (intros; simp_all; omega) | (and_intros <;> first | rfl | omega | assumption | (simp; done)))
  refine hK6 _ _ ?_
  refine wps_cond (b := _) rfl (fun h1 => ?_) (fun h1 => ?_)
  · obtain ⟨n', hn'⟩ : ∃ n', n = n' + 1 := ⟨n - 1, by simp at h1; omega⟩
    subst hn'
    have hct : (((n' + 1 : Nat) : Int) - 1) = (n' : Int) := by omega
    have hel := srow_at (L := R.L) (i := n') (by omega)
    have hel2 := lrow_at (l := R.late) (i := n') (by omega)
    have hw1 : IntKind.i64.wrap ((n' : Int) - 1) = (n' : Int) - 1 := wrap64 (by omega) (by omega)
    rw [rseenI] at hch
    refine wps_skip ?_
    refine hK5 _ _ ?_
    refine wps_seq fun K7 hK7 => ?_
    refine wps_blk fun K8 hK8 => ?_
    refine wps_seq fun K9 hK9 => ?_
    refine wps_region (by rw [hnt]; rfl) 0 ?_
    simp only [↓kOps_app, ↓evOps_nil, ↓evOps_cons, go_sem, Int.reduceAdd, Int.reduceBEq, Int.reduceEq, Int.reduceLE, Int.reduceLT, Int.reduceNe, Int.reduceSub, Int.reduceToNat, Nat.reduceAdd, Nat.reduceBEq, Nat.reduceEqDiff, Nat.reduceLT, Nat.reduceLeDiff, Nat.reduceMul, Nat.reduceSub, reduceCtorEq, reduceIte, hct, hel, hel2]
    repeat (refine And.intro ?_ ?_; · first | rfl | omega | assumption | (simp; done) | (simp; omega) | (intros; omega) | (intros; simp_all; done) | (intros; simp_all; omega) | (and_intros <;> first | rfl | omega | assumption | (simp; done)))
    refine hK9 _ _ ?_
    refine wps_cond (b := _) rfl (fun h2 => ?_) (fun h2 => ?_)
    · refine wps_seq fun K10 hK10 => ?_
      refine wps_drawL mixed (by rw [hnt]; rfl) (by kernel_rfl) 0 (ms := [0, 1, 0, 7, 15, 31, 63, 0, 128, 0, 896, 1920, 3968, 127, 16383, 32767]) (by kernel_rfl) ?_
      simp only [↓kOps_app, ↓evOps_nil, ↓evOps_cons, go_sem, Int.reduceAdd, Int.reduceBEq, Int.reduceEq, Int.reduceLE, Int.reduceLT, Int.reduceNe, Int.reduceSub, Int.reduceToNat, Nat.reduceAdd, Nat.reduceBEq, Nat.reduceEqDiff, Nat.reduceLT, Nat.reduceLeDiff, Nat.reduceMul, Nat.reduceSub, reduceCtorEq, reduceIte, hct, hel]
      repeat (refine And.intro ?_ ?_; · first | rfl | omega | assumption | (simp; done) | (simp; omega) | (intros; omega) | (intros; simp_all; done) | (intros; simp_all; omega) | (and_intros <;> first | rfl | omega | assumption | (simp; done)))
      refine hK10 _ _ ?_
      refine wps_ret ?_
      refine retL [] (by simp only [resAll, resSV, ↓kOps_app, ↓evOps_nil, ↓evOps_cons, go_sem, Int.reduceAdd, Int.reduceBEq, Int.reduceEq, Int.reduceLE, Int.reduceLT, Int.reduceNe, Int.reduceSub, Int.reduceToNat, Nat.reduceAdd, Nat.reduceBEq, Nat.reduceEqDiff, Nat.reduceLT, Nat.reduceLeDiff, Nat.reduceMul, Nat.reduceSub, reduceCtorEq, reduceIte]; rfl) (by simp only [resObs, resOb, ↓kOps_app, ↓evOps_nil, ↓evOps_cons, go_sem, Int.reduceAdd, Int.reduceBEq, Int.reduceEq, Int.reduceLE, Int.reduceLT, Int.reduceNe, Int.reduceSub, Int.reduceToNat, Nat.reduceAdd, Nat.reduceBEq, Nat.reduceEqDiff, Nat.reduceLT, Nat.reduceLeDiff, Nat.reduceMul, Nat.reduceSub, reduceCtorEq, reduceIte]) rfl rfl ?_
      rw [if_pos h2] at hch
      simp only [retSV, SV.mv, mvs, subL, List.map_nil, List.map_cons, SObj.mv, posOf, back, List.length_cons, List.length_nil, List.getElem?_cons_zero, List.getElem?_cons_succ, Option.map_some, Nat.reduceAdd, Nat.reduceLT, Nat.zero_add, Nat.lt_add_one, List.getD_cons_zero, List.getD_cons_succ, reduceIte, Nat.reduceEqDiff, Env.get, Env.put, and_true, true_and, implies_true, ← hch, Option.getD_some, Option.isSome_some]
    · refine wps_skip ?_
      refine hK8 _ _ ?_
      refine hK7 _ _ ?_
      refine wps_region (by rw [hnt]; rfl) 0 ?_
      simp only [↓kOps_app, ↓evOps_nil, ↓evOps_cons, go_sem, Int.reduceAdd, Int.reduceBEq, Int.reduceEq, Int.reduceLE, Int.reduceLT, Int.reduceNe, Int.reduceSub, Int.reduceToNat, Nat.reduceAdd, Nat.reduceBEq, Nat.reduceEqDiff, Nat.reduceLT, Nat.reduceLeDiff, Nat.reduceMul, Nat.reduceSub, reduceCtorEq, reduceIte, hct, hw1]
      repeat (refine And.intro ?_ ?_; · first | rfl | omega | assumption | (simp; done) | (simp; omega) | (intros; omega) | (intros; simp_all; done) | (intros; simp_all; omega) | (and_intros <;> first | rfl | omega | assumption | (simp; done)))
      rw [if_neg (by rw [h2]; decide)] at hch
      exact hKL _ _ n' _ _ (entL hc0 [some 0, some 1] rfl rfl (by simp only [go_sem, reduceIte, Nat.reduceEqDiff, Nat.reduceAdd, Nat.reduceLT]) (by simp only [go_sem, reduceIte, Nat.reduceEqDiff, Nat.reduceAdd, Nat.reduceLT])) ⟨n', rfl, by omega, hch, rfl, rfl⟩ (by omega)
  · refine wps_exit ?_
    simp only [reduceIte, Nat.reduceEqDiff]
    refine hK4 _ _ ?_
    refine hK2 _ _ ?_
    refine wps_seq fun K11 hK11 => ?_
    refine wps_region (by rw [hnt]; rfl) 0 ?_
    simp only [↓kOps_app, ↓evOps_nil, ↓evOps_cons, go_sem, Int.reduceAdd, Int.reduceBEq, Int.reduceEq, Int.reduceLE, Int.reduceLT, Int.reduceNe, Int.reduceSub, Int.reduceToNat, Nat.reduceAdd, Nat.reduceBEq, Nat.reduceEqDiff, Nat.reduceLT, Nat.reduceLeDiff, Nat.reduceMul, Nat.reduceSub, reduceCtorEq, reduceIte]
    repeat (refine And.intro ?_ ?_; · first | rfl | omega | assumption | (simp; done) | (simp; omega) | (intros; omega) | (intros; simp_all; done) | (intros; simp_all; omega) | (and_intros <;> first | rfl | omega | assumption | (simp; done)))
    refine hK11 _ _ ?_
    refine wps_ret ?_
    refine retL [] (by simp only [resAll, resSV, ↓kOps_app, ↓evOps_nil, ↓evOps_cons, go_sem, Int.reduceAdd, Int.reduceBEq, Int.reduceEq, Int.reduceLE, Int.reduceLT, Int.reduceNe, Int.reduceSub, Int.reduceToNat, Nat.reduceAdd, Nat.reduceBEq, Nat.reduceEqDiff, Nat.reduceLT, Nat.reduceLeDiff, Nat.reduceMul, Nat.reduceSub, reduceCtorEq, reduceIte]; rfl) (by simp only [resObs, resOb, ↓kOps_app, ↓evOps_nil, ↓evOps_cons, go_sem, Int.reduceAdd, Int.reduceBEq, Int.reduceEq, Int.reduceLE, Int.reduceLT, Int.reduceNe, Int.reduceSub, Int.reduceToNat, Nat.reduceAdd, Nat.reduceBEq, Nat.reduceEqDiff, Nat.reduceLT, Nat.reduceLeDiff, Nat.reduceMul, Nat.reduceSub, reduceCtorEq, reduceIte]) rfl rfl ?_
    simp at h1
    have : n = 0 := by omega
    subst this
    rw [rseenI] at hch
    simp only [retSV, SV.mv, mvs, subL, List.map_nil, List.map_cons, SObj.mv, posOf, back, List.length_cons, List.length_nil, List.getElem?_cons_zero, List.getElem?_cons_succ, Option.map_some, Nat.reduceAdd, Nat.reduceLT, Nat.zero_add, Nat.lt_add_one, List.getD_cons_zero, List.getD_cons_succ, reduceIte, Nat.reduceEqDiff, Env.get, Env.put, and_true, true_and, implies_true, ← hch, Option.getD_none, Option.isSome_none]

def wkI (x : Sd) (key : List UInt8) : Nat → Nat → Int → Int
  | 0, _, a => a
  | f + 1, k, a => wkI x key f (k + 1) (if x.e == 0 && (wat x.b.ws k).1 == key then x.at_ else a)
def wlI (L : List Sd) (key : List UInt8) : Nat → Nat → Int → Int
  | 0, _, a => a
  | f + 1, i, a => wlI L key f (i + 1) (wkI (sat L i) key (sat L i).b.ws.length 0 a)
def rwhen (R : Rj) (key : List UInt8) : Int := wlI R.L key R.L.length 0 0

set_option maxHeartbeats 4000000 in
theorem rwhen_ok (R : Rj) (hR : R.OK) (key : List UInt8) : CallT Try.prog 21 [.agg [.u (.i .u64 R.first), .u (.i .u64 R.last), .u (.fz (R.L.map srow) R.q), .u (.fz (R.late.map lrow) R.p)], .u (.s key)] []
    fun r σ => r = .u (.i .u64 (rwhen R key)) ∧ σ = [] := by
  have hlen := hR.len
  have hfew := hR.few
  unfold rwhen
  refine callT_ofL 58 [.tmp 4] Try.func21 rfl Try.ntmps21 rfl (Nat.le_of_ble_eq_true rfl) fun c hnt hc0 => ?_
  refine wps_seq fun K1 hK1 => ?_
  refine wps_region (by rw [hnt]; rfl) 1 ?_
  simp only [↓kOps_app, ↓evOps_nil, ↓evOps_cons, go_sem, Int.reduceAdd, Int.reduceBEq, Int.reduceEq, Int.reduceLE, Int.reduceLT, Int.reduceNe, Int.reduceSub, Int.reduceToNat, Nat.reduceAdd, Nat.reduceBEq, Nat.reduceEqDiff, Nat.reduceLT, Nat.reduceLeDiff, Nat.reduceMul, Nat.reduceSub, reduceCtorEq, reduceIte]
  repeat (refine And.intro ?_ ?_; · first | rfl | omega | assumption | (simp; done) | (simp; omega) | (intros; omega) | (intros; simp_all; done) | (intros; simp_all; omega) | (and_intros <;> first | rfl | omega | assumption | (simp; done)))
  refine hK1 _ _ ?_
  refine wps_seq fun K2 hK2 => ?_
  refine wps_region (by rw [hnt]; rfl) 0 ?_
  simp only [↓kOps_app, ↓evOps_nil, ↓evOps_cons, go_sem, Int.reduceAdd, Int.reduceBEq, Int.reduceEq, Int.reduceLE, Int.reduceLT, Int.reduceNe, Int.reduceSub, Int.reduceToNat, Nat.reduceAdd, Nat.reduceBEq, Nat.reduceEqDiff, Nat.reduceLT, Nat.reduceLeDiff, Nat.reduceMul, Nat.reduceSub, reduceCtorEq, reduceIte]
  repeat (refine And.intro ?_ ?_; · first | rfl | omega | assumption | (simp; done) | (simp; omega) | (intros; omega) | (intros; simp_all; done) | (intros; simp_all; omega) | (and_intros <;> first | rfl | omega | assumption | (simp; done)))
  refine hK2 _ _ ?_
  refine wps_seq fun K3 hK3 => ?_
  refine wps_seq fun K4 hK4 => ?_
  refine wps_region (by rw [hnt]; rfl) 0 ?_
  simp only [↓kOps_app, ↓evOps_nil, ↓evOps_cons, go_sem, Int.reduceAdd, Int.reduceBEq, Int.reduceEq, Int.reduceLE, Int.reduceLT, Int.reduceNe, Int.reduceSub, Int.reduceToNat, Nat.reduceAdd, Nat.reduceBEq, Nat.reduceEqDiff, Nat.reduceLT, Nat.reduceLeDiff, Nat.reduceMul, Nat.reduceSub, reduceCtorEq, reduceIte]
  repeat (refine And.intro ?_ ?_; · first | rfl | omega | assumption | (simp; done) | (simp; omega) | (intros; omega) | (intros; simp_all; done) | (intros; simp_all; omega) | (and_intros <;> first | rfl | omega | assumption | (simp; done)))
  refine hK4 _ _ ?_
  refine wps_blk fun K5 hK5 => ?_
  refine wps_loop (fun k e σ => ∃ (i : Nat) (a : Int), k = R.L.length - i ∧ i ≤ R.L.length ∧ wlI R.L key (R.L.length - i) i a = wlI R.L key R.L.length 0 0 ∧ e = [(1, .u (.s key)), (2, .p 0 0), (5, .u (.i .u64 a)), (6, .u (.i .i64 i))] ∧ σ = [.cells [.u (.i .u64 R.first), .u (.i .u64 R.last), .u (.fz (R.L.map srow) R.q), .u (.fz (R.late.map lrow) R.p)]])
    (e0 := [(1, .u (.s key)), (2, .p 0 0), (5, .u (.i .u64 0)), (6, .u (.i .i64 0))]) (σ0 := [.cells [.u (.i .u64 R.first), .u (.i .u64 R.last), .u (.fz (R.L.map srow) R.q), .u (.fz (R.late.map lrow) R.p)]])
    (entL hc0 [some 0] rfl rfl (by simp only [go_sem, reduceIte, Nat.reduceEqDiff, Nat.reduceAdd, Nat.reduceLT]) (by simp only [go_sem, reduceIte, Nat.reduceEqDiff, Nat.reduceAdd, Nat.reduceLT])) ⟨0, 0, rfl, Nat.zero_le _, rfl, rfl, rfl⟩ fun KL k e1 σ1 hI hKL => ?_
  obtain ⟨i, a, rfl, hi, hch, rfl, rfl⟩ := hI
  refine wps_seq fun K6 hK6 => ?_
  refine wps_seq fun K7 hK7 => ?_
  refine wps_region (by rw [hnt]; rfl) 0 ?_
  simp only [↓kOps_app, ↓evOps_nil, ↓evOps_cons, go_sem, Int.reduceAdd, Int.reduceBEq, Int.reduceEq, Int.reduceLE, Int.reduceLT, Int.reduceNe, Int.reduceSub, Int.reduceToNat, Nat.reduceAdd, Nat.reduceBEq, Nat.reduceEqDiff, Nat.reduceLT, Nat.reduceLeDiff, Nat.reduceMul, Nat.reduceSub, reduceCtorEq, reduceIte]
  repeat (refine And.intro ?_ ?_; · first | rfl | omega | assumption | (simp; done) | (simp; omega) | (intros; omega) | (intros; simp_all; done) | (intros; simp_all; omega) | (and_intros <;> first | rfl | omega | assumption | (simp; done)))
  refine hK7 _ _ ?_
  refine wps_cond (b := _) rfl (fun h1 => ?_) (fun h1 => ?_)
  · simp at h1
    have hel := srow_at h1
    have hws := hR.ws _ (sat_mem h1)
    have hw1 : IntKind.i64.wrap ((i : Int) + 1) = ((i + 1 : Nat) : Int) := by rw [wrap64 (by omega) (by omega)]; omega
    have hst : R.L.length - i = (R.L.length - (i + 1)) + 1 := by omega
    rw [hst, wlI] at hch
    refine wps_skip ?_
    refine hK6 _ _ ?_
    refine wps_seq fun K8 hK8 => ?_
    refine wps_blk fun K9 hK9 => ?_
    refine wps_seq fun K10 hK10 => ?_
    refine wps_region (by rw [hnt]; rfl) 0 ?_
    simp only [↓kOps_app, ↓evOps_nil, ↓evOps_cons, go_sem, Int.reduceAdd, Int.reduceBEq, Int.reduceEq, Int.reduceLE, Int.reduceLT, Int.reduceNe, Int.reduceSub, Int.reduceToNat, Nat.reduceAdd, Nat.reduceBEq, Nat.reduceEqDiff, Nat.reduceLT, Nat.reduceLeDiff, Nat.reduceMul, Nat.reduceSub, reduceCtorEq, reduceIte]
    repeat (refine And.intro ?_ ?_; · first | rfl | omega | assumption | (simp; done) | (simp; omega) | (intros; omega) | (intros; simp_all; done) | (intros; simp_all; omega) | (and_intros <;> first | rfl | omega | assumption | (simp; done)))
    refine hK10 _ _ ?_
    refine wps_blk fun K11 hK11 => ?_
    refine wps_loop (fun k e σ => ∃ (kk : Nat) (a' : Int), k = (sat R.L i).b.ws.length - kk ∧ kk ≤ (sat R.L i).b.ws.length ∧ wkI (sat R.L i) key ((sat R.L i).b.ws.length - kk) kk a' = wkI (sat R.L i) key (sat R.L i).b.ws.length 0 a ∧ e = [(1, .u (.s key)), (2, .p 0 0), (5, .u (.i .u64 a')), (6, .u (.i .i64 i)), (7, .u (.i .i64 kk))] ∧ σ = [.cells [.u (.i .u64 R.first), .u (.i .u64 R.last), .u (.fz (R.L.map srow) R.q), .u (.fz (R.late.map lrow) R.p)]])
      (e0 := [(1, .u (.s key)), (2, .p 0 0), (5, .u (.i .u64 a)), (6, .u (.i .i64 i)), (7, .u (.i .i64 0))]) (σ0 := [.cells [.u (.i .u64 R.first), .u (.i .u64 R.last), .u (.fz (R.L.map srow) R.q), .u (.fz (R.late.map lrow) R.p)]])
      (entL hc0 [some 0] rfl rfl (by simp only [go_sem, reduceIte, Nat.reduceEqDiff, Nat.reduceAdd, Nat.reduceLT]) (by simp only [go_sem, reduceIte, Nat.reduceEqDiff, Nat.reduceAdd, Nat.reduceLT])) ⟨0, a, rfl, Nat.zero_le _, rfl, rfl, rfl⟩ fun KM k2 e2 σ2 hI2 hKM => ?_
    obtain ⟨kk, a', rfl, hkk, hch2, rfl, rfl⟩ := hI2
    refine wps_seq fun K12 hK12 => ?_
    refine wps_seq fun K13 hK13 => ?_
    refine wps_region (by rw [hnt]; rfl) 0 ?_
    simp only [↓kOps_app, ↓evOps_nil, ↓evOps_cons, go_sem, Int.reduceAdd, Int.reduceBEq, Int.reduceEq, Int.reduceLE, Int.reduceLT, Int.reduceNe, Int.reduceSub, Int.reduceToNat, Nat.reduceAdd, Nat.reduceBEq, Nat.reduceEqDiff, Nat.reduceLT, Nat.reduceLeDiff, Nat.reduceMul, Nat.reduceSub, reduceCtorEq, reduceIte, hel]
    repeat (refine And.intro ?_ ?_; · first | rfl | omega | assumption | (simp; done) | (simp; omega) | (intros; omega) | (intros; simp_all; done) | (intros; simp_all; omega) | (and_intros <;> first | rfl | omega | assumption | (simp; done)))
    refine hK13 _ _ ?_
    refine wps_cond (b := _) rfl (fun h2 => ?_) (fun h2 => ?_)
    · simp at h2
      have hel2 := wrow_at h2
      have hw2 : IntKind.i64.wrap ((kk : Int) + 1) = ((kk + 1 : Nat) : Int) := by rw [wrap64 (by omega) (by omega)]; omega
      have hst2 : (sat R.L i).b.ws.length - kk = ((sat R.L i).b.ws.length - (kk + 1)) + 1 := by omega
      rw [hst2, wkI] at hch2
      refine wps_skip ?_
      refine hK12 _ _ ?_
      refine wps_seq fun K14 hK14 => ?_
      refine wps_blk fun K15 hK15 => ?_
      refine wps_seq fun K16 hK16 => ?_
      refine wps_region (by rw [hnt]; rfl) 0 ?_
      simp only [↓kOps_app, ↓evOps_nil, ↓evOps_cons, go_sem, Int.reduceAdd, Int.reduceBEq, Int.reduceEq, Int.reduceLE, Int.reduceLT, Int.reduceNe, Int.reduceSub, Int.reduceToNat, Nat.reduceAdd, Nat.reduceBEq, Nat.reduceEqDiff, Nat.reduceLT, Nat.reduceLeDiff, Nat.reduceMul, Nat.reduceSub, reduceCtorEq, reduceIte, hel, hel2]
      repeat (refine And.intro ?_ ?_; · first | rfl | omega | assumption | (simp; done) | (simp; omega) | (intros; omega) | (intros; simp_all; done) | (intros; simp_all; omega) | (and_intros <;> first | rfl | omega | assumption | (simp; done)))
      refine hK16 _ _ ?_
      refine wps_cond (b := _) rfl (fun h3 => ?_) (fun h3 => ?_)
      · refine wps_region (by rw [hnt]; rfl) 0 ?_
        simp only [↓kOps_app, ↓evOps_nil, ↓evOps_cons, go_sem, Int.reduceAdd, Int.reduceBEq, Int.reduceEq, Int.reduceLE, Int.reduceLT, Int.reduceNe, Int.reduceSub, Int.reduceToNat, Nat.reduceAdd, Nat.reduceBEq, Nat.reduceEqDiff, Nat.reduceLT, Nat.reduceLeDiff, Nat.reduceMul, Nat.reduceSub, reduceCtorEq, reduceIte, hel]
        repeat (refine And.intro ?_ ?_; · first | rfl | omega | assumption | (simp; done) | (simp; omega) | (intros; omega) | (intros; simp_all; done) | (intros; simp_all; omega) | (and_intros <;> first | rfl | omega | assumption | (simp; done)))
        refine hK15 _ _ ?_
        refine hK14 _ _ ?_
        refine wps_region (by rw [hnt]; rfl) 0 ?_
        simp only [↓kOps_app, ↓evOps_nil, ↓evOps_cons, go_sem, Int.reduceAdd, Int.reduceBEq, Int.reduceEq, Int.reduceLE, Int.reduceLT, Int.reduceNe, Int.reduceSub, Int.reduceToNat, Nat.reduceAdd, Nat.reduceBEq, Nat.reduceEqDiff, Nat.reduceLT, Nat.reduceLeDiff, Nat.reduceMul, Nat.reduceSub, reduceCtorEq, reduceIte, hw2]
        repeat (refine And.intro ?_ ?_; · first | rfl | omega | assumption | (simp; done) | (simp; omega) | (intros; omega) | (intros; simp_all; done) | (intros; simp_all; omega) | (and_intros <;> first | rfl | omega | assumption | (simp; done)))
        rw [if_pos h3] at hch2
        exact hKM _ _ ((sat R.L i).b.ws.length - (kk + 1)) _ _ (entL hc0 [some 0] rfl rfl (by simp only [go_sem, reduceIte, Nat.reduceEqDiff, Nat.reduceAdd, Nat.reduceLT]) (by simp only [go_sem, reduceIte, Nat.reduceEqDiff, Nat.reduceAdd, Nat.reduceLT])) ⟨kk + 1, _, rfl, by omega, hch2, rfl, rfl⟩ (by omega)
      · refine wps_skip ?_
        refine hK15 _ _ ?_
        refine hK14 _ _ ?_
        refine wps_region (by rw [hnt]; rfl) 0 ?_
        simp only [↓kOps_app, ↓evOps_nil, ↓evOps_cons, go_sem, Int.reduceAdd, Int.reduceBEq, Int.reduceEq, Int.reduceLE, Int.reduceLT, Int.reduceNe, Int.reduceSub, Int.reduceToNat, Nat.reduceAdd, Nat.reduceBEq, Nat.reduceEqDiff, Nat.reduceLT, Nat.reduceLeDiff, Nat.reduceMul, Nat.reduceSub, reduceCtorEq, reduceIte, hw2]
        repeat (refine And.intro ?_ ?_; · first | rfl | omega | assumption | (simp; done) | (simp; omega) | (intros; omega) | (intros; simp_all; done) | (intros; simp_all; omega) | (and_intros <;> first | rfl | omega | assumption | (simp; done)))
        rw [if_neg (by rw [h3]; decide)] at hch2
        exact hKM _ _ ((sat R.L i).b.ws.length - (kk + 1)) _ _ (entL hc0 [some 0] rfl rfl (by simp only [go_sem, reduceIte, Nat.reduceEqDiff, Nat.reduceAdd, Nat.reduceLT]) (by simp only [go_sem, reduceIte, Nat.reduceEqDiff, Nat.reduceAdd, Nat.reduceLT])) ⟨kk + 1, _, rfl, by omega, hch2, rfl, rfl⟩ (by omega)
    · simp at h2
      have : (sat R.L i).b.ws.length - kk = 0 := by omega
      rw [this, wkI] at hch2
      subst hch2
      refine wps_exit ?_
      simp only [reduceIte, Nat.reduceEqDiff]
      refine hK11 _ _ ?_
      refine hK9 _ _ ?_
      refine hK8 _ _ ?_
      refine wps_region (by rw [hnt]; rfl) 0 ?_
      simp only [↓kOps_app, ↓evOps_nil, ↓evOps_cons, go_sem, Int.reduceAdd, Int.reduceBEq, Int.reduceEq, Int.reduceLE, Int.reduceLT, Int.reduceNe, Int.reduceSub, Int.reduceToNat, Nat.reduceAdd, Nat.reduceBEq, Nat.reduceEqDiff, Nat.reduceLT, Nat.reduceLeDiff, Nat.reduceMul, Nat.reduceSub, reduceCtorEq, reduceIte, hw1]
      repeat (refine And.intro ?_ ?_; · first | rfl | omega | assumption | (simp; done) | (simp; omega) | (intros; omega) | (intros; simp_all; done) | (intros; simp_all; omega) | (and_intros <;> first | rfl | omega | assumption | (simp; done)))
      exact hKL _ _ (R.L.length - (i + 1)) _ _ (entL hc0 [some 0] rfl rfl (by simp only [go_sem, reduceIte, Nat.reduceEqDiff, Nat.reduceAdd, Nat.reduceLT]) (by simp only [go_sem, reduceIte, Nat.reduceEqDiff, Nat.reduceAdd, Nat.reduceLT])) ⟨i + 1, _, rfl, by omega, hch, rfl, rfl⟩ (by omega)
  · refine wps_exit ?_
    simp only [reduceIte, Nat.reduceEqDiff]
    refine hK5 _ _ ?_
    refine hK3 _ _ ?_
    refine wps_seq fun K17 hK17 => ?_
    refine wps_region (by rw [hnt]; rfl) 0 ?_
    simp only [↓kOps_app, ↓evOps_nil, ↓evOps_cons, go_sem, Int.reduceAdd, Int.reduceBEq, Int.reduceEq, Int.reduceLE, Int.reduceLT, Int.reduceNe, Int.reduceSub, Int.reduceToNat, Nat.reduceAdd, Nat.reduceBEq, Nat.reduceEqDiff, Nat.reduceLT, Nat.reduceLeDiff, Nat.reduceMul, Nat.reduceSub, reduceCtorEq, reduceIte]
    repeat (refine And.intro ?_ ?_; · first | rfl | omega | assumption | (simp; done) | (simp; omega) | (intros; omega) | (intros; simp_all; done) | (intros; simp_all; omega) | (and_intros <;> first | rfl | omega | assumption | (simp; done)))
    refine hK17 _ _ ?_
    refine wps_ret ?_
    refine retL [] (by simp only [resAll, resSV, ↓kOps_app, ↓evOps_nil, ↓evOps_cons, go_sem, Int.reduceAdd, Int.reduceBEq, Int.reduceEq, Int.reduceLE, Int.reduceLT, Int.reduceNe, Int.reduceSub, Int.reduceToNat, Nat.reduceAdd, Nat.reduceBEq, Nat.reduceEqDiff, Nat.reduceLT, Nat.reduceLeDiff, Nat.reduceMul, Nat.reduceSub, reduceCtorEq, reduceIte]; rfl) (by simp only [resObs, resOb, ↓kOps_app, ↓evOps_nil, ↓evOps_cons, go_sem, Int.reduceAdd, Int.reduceBEq, Int.reduceEq, Int.reduceLE, Int.reduceLT, Int.reduceNe, Int.reduceSub, Int.reduceToNat, Nat.reduceAdd, Nat.reduceBEq, Nat.reduceEqDiff, Nat.reduceLT, Nat.reduceLeDiff, Nat.reduceMul, Nat.reduceSub, reduceCtorEq, reduceIte]) rfl rfl ?_
    simp at h1
    have : R.L.length - i = 0 := by omega
    rw [this, wlI] at hch
    simp only [retSV, SV.mv, mvs, subL, List.map_nil, List.map_cons, SObj.mv, posOf, back, List.length_cons, List.length_nil, List.getElem?_cons_zero, List.getElem?_cons_succ, Option.map_some, Nat.reduceAdd, Nat.reduceLT, Nat.zero_add, Nat.lt_add_one, List.getD_cons_zero, List.getD_cons_succ, reduceIte, Nat.reduceEqDiff, Env.get, Env.put, and_true, true_and, implies_true, hch]

def tellS (R : Rj) (b : Bt) (at_ e : Int) (late : Bool) : Rj := ⟨R.first, if e == 0 then at_ else R.last, R.L ++ [⟨b, at_, e⟩], R.late ++ [late], none, none⟩

theorem srow_ok (L : List Sd) : (∀ y ∈ L.map srow, y.length = 6) ∧ ∀ y ∈ L.map srow, ∀ p ∈ y, PV.one p = true := by
  constructor
  · intro y hy
    obtain ⟨x, _, rfl⟩ := List.mem_map.1 hy
    rfl
  · intro y hy p hp
    obtain ⟨x, _, rfl⟩ := List.mem_map.1 hy
    simp only [srow, List.mem_cons, List.not_mem_nil, or_false] at hp
    rcases hp with rfl | rfl | rfl | rfl | rfl | rfl <;> rfl
theorem lrow_ok (L : List Bool) : (∀ y ∈ L.map lrow, y.length = 1) ∧ ∀ y ∈ L.map lrow, ∀ p ∈ y, PV.one p = true := by
  constructor
  · intro y hy
    obtain ⟨x, _, rfl⟩ := List.mem_map.1 hy
    rfl
  · intro y hy p hp
    obtain ⟨x, _, rfl⟩ := List.mem_map.1 hy
    simp only [lrow, List.mem_cons, List.not_mem_nil, or_false] at hp
    subst hp; rfl

set_option maxHeartbeats 4000000 in
theorem tell_ok (R : Rj) (hR : R.OK) (cl r s : Int) (ws : List Wt) (at_ e : Int) (late : Bool) : CallT Try.prog 29 [.agg [.u (.i .u64 R.first), .u (.i .u64 R.last), .u (.fz (R.L.map srow) R.q), .u (.fz (R.late.map lrow) R.p)], .agg (bcells cl r s ws none), .agg [.u (.i .u64 at_), .u (.i .i64 e)], .u (.b late)] []
    fun x σ => x = .agg [.u (.i .u64 (tellS R ⟨cl, r, s, ws⟩ at_ e late).first), .u (.i .u64 (tellS R ⟨cl, r, s, ws⟩ at_ e late).last), .u (.fz ((tellS R ⟨cl, r, s, ws⟩ at_ e late).L.map srow) (tellS R ⟨cl, r, s, ws⟩ at_ e late).q), .u (.fz ((tellS R ⟨cl, r, s, ws⟩ at_ e late).late.map lrow) (tellS R ⟨cl, r, s, ws⟩ at_ e late).p)] ∧ σ = [] := by
  have hlen := hR.len
  have hfew := hR.few
  obtain ⟨hs1, hs2⟩ := srow_ok R.L
  obtain ⟨hl1, hl2⟩ := lrow_ok R.late
  unfold bcells tellS
  refine callT_ofL 34 [.cell 8 52] Try.func29 rfl Try.ntmps29 rfl (Nat.le_of_ble_eq_true rfl) fun c hnt hc0 => ?_
  refine wps_seq fun K1 hK1 => ?_
  refine wps_region (by rw [hnt]; rfl) 4 ?_
  simp only [↓kOps_app, ↓evOps_nil, ↓evOps_cons, go_sem, Int.reduceAdd, Int.reduceBEq, Int.reduceEq, Int.reduceLE, Int.reduceLT, Int.reduceNe, Int.reduceSub, Int.reduceToNat, Nat.reduceAdd, Nat.reduceBEq, Nat.reduceEqDiff, Nat.reduceLT, Nat.reduceLeDiff, Nat.reduceMul, Nat.reduceSub, reduceCtorEq, reduceIte]
  repeat (refine And.intro ?_ ?_; · first | rfl | omega | assumption | (simp; done) | (simp; omega) | (intros; omega) | (intros; simp_all; done) | (intros; simp_all; omega) | (and_intros <;> first | rfl | omega | assumption | (simp; done)))
  refine hK1 _ _ ?_
  refine wps_seq fun K2 hK2 => ?_
  refine wps_drawL mixed (by rw [hnt]; rfl) (by kernel_rfl) 2 (ms := [0, 0, 2, 7, 0, 0, 48, 112, 255, 511, 1023]) (by kernel_rfl) ?_
  simp only [↓kOps_app, ↓evOps_nil, ↓evOps_cons, go_sem, Int.reduceAdd, Int.reduceBEq, Int.reduceEq, Int.reduceLE, Int.reduceLT, Int.reduceNe, Int.reduceSub, Int.reduceToNat, Nat.reduceAdd, Nat.reduceBEq, Nat.reduceEqDiff, Nat.reduceLT, Nat.reduceLeDiff, Nat.reduceMul, Nat.reduceSub, reduceCtorEq, reduceIte]
  repeat (refine And.intro ?_ ?_; · first | rfl | omega | assumption | (simp; done) | (simp; omega) | (intros; omega) | (intros; simp_all; done) | (intros; simp_all; omega) | (and_intros <;> first | rfl | omega | assumption | (simp; done)))
  refine hK2 _ _ ?_
  refine wps_seq fun K3 hK3 => ?_
  refine wps_region (by rw [hnt]; rfl) 2 ?_
  simp only [↓kOps_app, ↓evOps_nil, ↓evOps_cons, go_sem, Int.reduceAdd, Int.reduceBEq, Int.reduceEq, Int.reduceLE, Int.reduceLT, Int.reduceNe, Int.reduceSub, Int.reduceToNat, Nat.reduceAdd, Nat.reduceBEq, Nat.reduceEqDiff, Nat.reduceLT, Nat.reduceLeDiff, Nat.reduceMul, Nat.reduceSub, reduceCtorEq, reduceIte]
  repeat (refine And.intro ?_ ?_; · first | rfl | omega | assumption | (simp; done) | (simp; omega) | (intros; omega) | (intros; simp_all; done) | (intros; simp_all; omega) | (and_intros <;> first | rfl | omega | assumption | (simp; done)))
  refine hK3 _ _ ?_
  refine wps_seq fun K4 hK4 => ?_
  refine wps_seq fun K5 hK5 => ?_
  refine wps_region (by rw [hnt]; rfl) 0 ?_
  simp only [↓kOps_app, ↓evOps_nil, ↓evOps_cons, go_sem, Int.reduceAdd, Int.reduceBEq, Int.reduceEq, Int.reduceLE, Int.reduceLT, Int.reduceNe, Int.reduceSub, Int.reduceToNat, Nat.reduceAdd, Nat.reduceBEq, Nat.reduceEqDiff, Nat.reduceLT, Nat.reduceLeDiff, Nat.reduceMul, Nat.reduceSub, reduceCtorEq, reduceIte]
  repeat (refine And.intro ?_ ?_; · first | rfl | omega | assumption | (simp; done) | (simp; omega) | (intros; omega) | (intros; simp_all; done) | (intros; simp_all; omega) | (and_intros <;> first | rfl | omega | assumption | (simp; done)))
  refine hK5 _ _ ?_
  refine wps_cond (b := _) rfl (fun h1 => ?_) (fun h1 => ?_)
  · refine wps_region (by rw [hnt]; rfl) 0 ?_
    simp only [↓kOps_app, ↓evOps_nil, ↓evOps_cons, go_sem, Int.reduceAdd, Int.reduceBEq, Int.reduceEq, Int.reduceLE, Int.reduceLT, Int.reduceNe, Int.reduceSub, Int.reduceToNat, Nat.reduceAdd, Nat.reduceBEq, Nat.reduceEqDiff, Nat.reduceLT, Nat.reduceLeDiff, Nat.reduceMul, Nat.reduceSub, reduceCtorEq, reduceIte]
    repeat (refine And.intro ?_ ?_; · first | rfl | omega | assumption | (simp; done) | (simp; omega) | (intros; omega) | (intros; simp_all; done) | (intros; simp_all; omega) | (and_intros <;> first | rfl | omega | assumption | (simp; done)))
    refine hK4 _ _ ?_
    refine wps_seq fun K6 hK6 => ?_
    refine wps_region (by rw [hnt]; rfl) 0 ?_
    simp only [↓kOps_app, ↓evOps_nil, ↓evOps_cons, go_sem, Int.reduceAdd, Int.reduceBEq, Int.reduceEq, Int.reduceLE, Int.reduceLT, Int.reduceNe, Int.reduceSub, Int.reduceToNat, Nat.reduceAdd, Nat.reduceBEq, Nat.reduceEqDiff, Nat.reduceLT, Nat.reduceLeDiff, Nat.reduceMul, Nat.reduceSub, reduceCtorEq, reduceIte]
    repeat (refine And.intro ?_ ?_; · first | rfl | omega | assumption | (simp; done) | (simp; omega) | (intros; omega) | (intros; simp_all; done) | (intros; simp_all; omega) | (and_intros <;> first | rfl | omega | assumption | (simp; done)))
    refine hK6 _ _ ?_
    refine wps_ent (e' := [(8, .p 0 0)]) (σ' := [.cells [.u (.i .u64 R.first), .u (.i .u64 at_), .u (.fz (R.L.map srow ++ [[.i .u64 cl, .i .u64 r, .i .u64 s, .fz (ws.map wrow) none, .i .u64 at_, .i .i64 e]]) none), .u (.fz (R.late.map lrow ++ [[.b late]]) none)]]) ((entF 5 rfl (e' := [(8, .p 3 0)]) (by simp only [go_sem, reduceIte, Nat.reduceEqDiff, Nat.reduceAdd, Nat.reduceLT]) rfl).trans ((entF 7 rfl (e' := [(8, .p 3 0)]) (by simp only [go_sem, reduceIte, Nat.reduceEqDiff, Nat.reduceAdd, Nat.reduceLT]) rfl).trans (entL hc0 [some 3] rfl rfl (by simp only [go_sem, reduceIte, Nat.reduceEqDiff, Nat.reduceAdd, Nat.reduceLT]) (by simp only [go_sem, reduceIte, Nat.reduceEqDiff, Nat.reduceAdd, Nat.reduceLT])))) ?_
    refine wps_ret ?_
    refine retL [] (by simp only [resAll, resSV, ↓kOps_app, ↓evOps_nil, ↓evOps_cons, go_sem, Int.reduceAdd, Int.reduceBEq, Int.reduceEq, Int.reduceLE, Int.reduceLT, Int.reduceNe, Int.reduceSub, Int.reduceToNat, Nat.reduceAdd, Nat.reduceBEq, Nat.reduceEqDiff, Nat.reduceLT, Nat.reduceLeDiff, Nat.reduceMul, Nat.reduceSub, reduceCtorEq, reduceIte]; rfl) (by simp only [resObs, resOb, ↓kOps_app, ↓evOps_nil, ↓evOps_cons, go_sem, Int.reduceAdd, Int.reduceBEq, Int.reduceEq, Int.reduceLE, Int.reduceLT, Int.reduceNe, Int.reduceSub, Int.reduceToNat, Nat.reduceAdd, Nat.reduceBEq, Nat.reduceEqDiff, Nat.reduceLT, Nat.reduceLeDiff, Nat.reduceMul, Nat.reduceSub, reduceCtorEq, reduceIte]) rfl rfl ?_
    simp only [retSV, SV.mv, mvs, subL, List.map_nil, List.map_cons, SObj.mv, posOf, back, List.length_cons, List.length_nil, List.getElem?_cons_zero, List.getElem?_cons_succ, Option.map_some, Nat.reduceAdd, Nat.reduceLT, Nat.zero_add, Nat.lt_add_one, List.getD_cons_zero, List.getD_cons_succ, reduceIte, Nat.reduceEqDiff, Env.get, Env.put, and_true, true_and, implies_true, h1, reduceIte, Bool.false_eq_true, List.map_append, srow, lrow]
  · refine wps_skip ?_
    refine hK4 _ _ ?_
    refine wps_seq fun K7 hK7 => ?_
    refine wps_region (by rw [hnt]; rfl) 0 ?_
    simp only [↓kOps_app, ↓evOps_nil, ↓evOps_cons, go_sem, Int.reduceAdd, Int.reduceBEq, Int.reduceEq, Int.reduceLE, Int.reduceLT, Int.reduceNe, Int.reduceSub, Int.reduceToNat, Nat.reduceAdd, Nat.reduceBEq, Nat.reduceEqDiff, Nat.reduceLT, Nat.reduceLeDiff, Nat.reduceMul, Nat.reduceSub, reduceCtorEq, reduceIte]
    repeat (refine And.intro ?_ ?_; · first | rfl | omega | assumption | (simp; done) | (simp; omega) | (intros; omega) | (intros; simp_all; done) | (intros; simp_all; omega) | (and_intros <;> first | rfl | omega | assumption | (simp; done)))
    refine hK7 _ _ ?_
    refine wps_ent (e' := [(8, .p 0 0)]) (σ' := [.cells [.u (.i .u64 R.first), .u (.i .u64 R.last), .u (.fz (R.L.map srow ++ [[.i .u64 cl, .i .u64 r, .i .u64 s, .fz (ws.map wrow) none, .i .u64 at_, .i .i64 e]]) none), .u (.fz (R.late.map lrow ++ [[.b late]]) none)]]) ((entF 5 rfl (e' := [(8, .p 3 0)]) (by simp only [go_sem, reduceIte, Nat.reduceEqDiff, Nat.reduceAdd, Nat.reduceLT]) rfl).trans ((entF 7 rfl (e' := [(8, .p 3 0)]) (by simp only [go_sem, reduceIte, Nat.reduceEqDiff, Nat.reduceAdd, Nat.reduceLT]) rfl).trans (entL hc0 [some 3] rfl rfl (by simp only [go_sem, reduceIte, Nat.reduceEqDiff, Nat.reduceAdd, Nat.reduceLT]) (by simp only [go_sem, reduceIte, Nat.reduceEqDiff, Nat.reduceAdd, Nat.reduceLT])))) ?_
    refine wps_ret ?_
    refine retL [] (by simp only [resAll, resSV, ↓kOps_app, ↓evOps_nil, ↓evOps_cons, go_sem, Int.reduceAdd, Int.reduceBEq, Int.reduceEq, Int.reduceLE, Int.reduceLT, Int.reduceNe, Int.reduceSub, Int.reduceToNat, Nat.reduceAdd, Nat.reduceBEq, Nat.reduceEqDiff, Nat.reduceLT, Nat.reduceLeDiff, Nat.reduceMul, Nat.reduceSub, reduceCtorEq, reduceIte]; rfl) (by simp only [resObs, resOb, ↓kOps_app, ↓evOps_nil, ↓evOps_cons, go_sem, Int.reduceAdd, Int.reduceBEq, Int.reduceEq, Int.reduceLE, Int.reduceLT, Int.reduceNe, Int.reduceSub, Int.reduceToNat, Nat.reduceAdd, Nat.reduceBEq, Nat.reduceEqDiff, Nat.reduceLT, Nat.reduceLeDiff, Nat.reduceMul, Nat.reduceSub, reduceCtorEq, reduceIte]) rfl rfl ?_
    simp only [retSV, SV.mv, mvs, subL, List.map_nil, List.map_cons, SObj.mv, posOf, back, List.length_cons, List.length_nil, List.getElem?_cons_zero, List.getElem?_cons_succ, Option.map_some, Nat.reduceAdd, Nat.reduceLT, Nat.zero_add, Nat.lt_add_one, List.getD_cons_zero, List.getD_cons_succ, reduceIte, Nat.reduceEqDiff, Env.get, Env.put, and_true, true_and, implies_true, h1, reduceIte, Bool.false_eq_true, List.map_append, srow, lrow]
end Go.Proofs.Ytiipndbcddgjlaa
