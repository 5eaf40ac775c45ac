/- Part 2 of the proof: what functions of the program do, and plain facts on what they compute. -/
import Derived.Test.YtefipnajpabfgaaGreatDoorP1
set_option linter.all false
set_option maxRecDepth 40000
set_option maxHeartbeats 16000000
set_option linter.unusedSimpArgs false
set_option linter.unusedVariables false
namespace Go.Proofs.YtefipnajpabfgaaGreatDoor
open Go.Nm

/-! ### sums -/
def stepS (r : Int) : Int := if r.fdiv (2 ^ min 31 32) == 1 then bits .xor .u32 (IntKind.u32.wrap (r * 2 ^ min 1 32)) 79764919 else IntKind.u32.wrap (r * 2 ^ min 1 32)
def entryS (i : Nat) : Int := stepS (stepS (stepS (stepS (IntKind.u32.wrap (IntKind.u32.wrap (i : Int) * 2 ^ min 28 32)))))
def tabS : List Int := [entryS 0, entryS 1, entryS 2, entryS 3, entryS 4, entryS 5, entryS 6, entryS 7, entryS 8, entryS 9, entryS 10, entryS 11, entryS 12, entryS 13, entryS 14, entryS 15]

theorem step_ok (r : Int) : CallT Tryz.prog 177 [.u (.i .u32 r), .u (.b false)] [] fun x σ => x = .u (.i .u32 (stepS r)) ∧ σ = [] := by
 refine cof 17 [.tmp 4] Tryz.func177 Tryz.ntmps177 fun c hnt hc0 => ?_
 refine sq fun _ k1 => rgn 0 ?_
 repeat refine ⟨sd, ?_⟩
 refine k1 (sq fun _ k2 => rgn 0 ?_)
 repeat refine ⟨sd, ?_⟩
 refine k2 (sq fun _ k3 => rgn 0 ?_)
 repeat refine ⟨sd, ?_⟩
 refine k3 (sq fun _ k4 => sq fun _ k5 => rgn 0 ?_)
 repeat refine ⟨sd, ?_⟩
 refine k5 (cd rfl (fun h1 => ?_) (fun h1 => ?_))
 ·refine rgn 0 ?_
  repeat refine ⟨sd, ?_⟩
  refine k4 (sq fun _ k6 => rgn 0 ?_)
  repeat refine ⟨sd, ?_⟩
  refine k6 (wps_ret ?_)
  refine retL [] rfl ⟨trivial, trivial⟩ rfl rfl ?_
  rw [stepS, if_pos (by simpa using h1)]
  exact mT
 ·refine wps_skip (k4 (sq fun _ k7 => rgn 0 ?_))
  repeat refine ⟨sd, ?_⟩
  refine k7 (wps_ret ?_)
  refine retL [] rfl ⟨trivial, trivial⟩ rfl rfl ?_
  rw [stepS, if_neg (by simpa using h1)]
  exact mT

def uc (l : List Int) : List SV := l.map fun x => .u (.i .u32 x)
theorem uc_mv (ρ : Nat → Option Nat) (l : List Int) : (uc l).map (SV.mv ρ) = uc l := by
 unfold uc
 rw [List.map_map]
 refine List.map_congr_left fun x _ => ?_
 simp [SV.mv]
theorem uc_len (l : List Int) : (uc l).length = l.length := by simp [uc]
theorem uc_put (l : List Int) (i : Nat) (x : Int) : (uc l).take i ++ .u (.i .u32 x) :: (uc l).drop (i + 1) = uc (l.take i ++ [x] ++ l.drop (i + 1)) := by
 simp [uc, List.map_take, List.map_drop]

theorem tab1_ok (i : Nat) (vs : List Int) (hi : i < 16) (hv : vs.length = 16) : CallT Tryz.prog 176 [.u (.i .i64 (i : Int)), .p 0 0] [.cells (uc vs)] fun x σ => x = .tup [] ∧ σ = [.cells (uc (vs.take i ++ [entryS i] ++ vs.drop (i + 1)))] := by
 have hul := uc_len vs
 refine cof 15 [] Tryz.func176 Tryz.ntmps176 fun c hnt hc0 => ?_
 refine sq fun _ k1 => rgn 0 ?_
 repeat refine ⟨sd, ?_⟩
 refine k1 (sq fun _ k2 => sq fun _ k3 => rgn 0 ?_)
 repeat refine ⟨sd, ?_⟩
 refine k3 (bk fun _ k4 => wps_loopU ?_)
 refine wpl_round fun K5 hK5 => sq fun _ k6 => rgn 0 ?_
 repeat refine ⟨sd, ?_⟩
 refine k6 (sq fun _ k7 => cd rfl (fun h1 => ?_) (fun h1 => ?_))
 ·refine wps_skip (k7 (sq fun _ k8 => bk fun _ k9 => rgn 0 ?_))
  repeat refine ⟨sd, ?_⟩
  refine callT_at [] [] (step_ok (IntKind.u32.wrap (IntKind.u32.wrap (i : Int) * 2 ^ min 28 32))) rfl rfl trivial mB mB rfl mR mR ?_
  refine evl ?_
  repeat refine ⟨sd, ?_⟩
  refine k9 (k8 (rgn 0 ?_))
  repeat refine ⟨sd, ?_⟩
  refine hK5 _ _ ?_
  refine wpl_round fun K10 hK10 => sq fun _ k11 => rgn 0 ?_
  repeat refine ⟨sd, ?_⟩
  refine k11 (sq fun _ k12 => cd rfl (fun h2 => ?_) (fun h2 => ?_))
  ·refine wps_skip (k12 (sq fun _ k13 => bk fun _ k14 => rgn 0 ?_))
   repeat refine ⟨sd, ?_⟩
   refine callT_at [] [] (step_ok (stepS (IntKind.u32.wrap (IntKind.u32.wrap (i : Int) * 2 ^ min 28 32)))) rfl rfl trivial mB mB rfl mR mR ?_
   refine evl ?_
   repeat refine ⟨sd, ?_⟩
   refine k14 (k13 (rgn 0 ?_))
   repeat refine ⟨sd, ?_⟩
   refine hK10 _ _ ?_
   refine wpl_round fun K15 hK15 => sq fun _ k16 => rgn 0 ?_
   repeat refine ⟨sd, ?_⟩
   refine k16 (sq fun _ k17 => cd rfl (fun h3 => ?_) (fun h3 => ?_))
   ·refine wps_skip (k17 (sq fun _ k18 => bk fun _ k19 => rgn 0 ?_))
    repeat refine ⟨sd, ?_⟩
    refine callT_at [] [] (step_ok (stepS (stepS (IntKind.u32.wrap (IntKind.u32.wrap (i : Int) * 2 ^ min 28 32))))) rfl rfl trivial mB mB rfl mR mR ?_
    refine evl ?_
    repeat refine ⟨sd, ?_⟩
    refine k19 (k18 (rgn 0 ?_))
    repeat refine ⟨sd, ?_⟩
    refine hK15 _ _ ?_
    refine wpl_round fun K20 hK20 => sq fun _ k21 => rgn 0 ?_
    repeat refine ⟨sd, ?_⟩
    refine k21 (sq fun _ k22 => cd rfl (fun h4 => ?_) (fun h4 => ?_))
    ·refine wps_skip (k22 (sq fun _ k23 => bk fun _ k24 => rgn 0 ?_))
     repeat refine ⟨sd, ?_⟩
     refine callT_at [] [] (step_ok (stepS (stepS (stepS (IntKind.u32.wrap (IntKind.u32.wrap (i : Int) * 2 ^ min 28 32)))))) rfl rfl trivial mB mB rfl mR mR ?_
     refine evl ?_
     repeat refine ⟨sd, ?_⟩
     refine k24 (k23 (rgn 0 ?_))
     repeat refine ⟨sd, ?_⟩
     refine hK20 _ _ ?_
     refine wpl_round fun K25 hK25 => sq fun _ k26 => rgn 0 ?_
     repeat refine ⟨sd, ?_⟩
     refine k26 (sq fun _ k27 => cd rfl (fun h5 => ?_) (fun h5 => ?_))
     ·exact absurd h5 (by simp)
     ·refine wps_exit ?_
      simp only [reduceIte, Nat.reduceEqDiff]
      refine k4 (k2 (rgn 0 ?_))
      repeat refine ⟨sd, ?_⟩
      refine retL [some 0] rfl trivial rfl rfl ?_
      simp only [go_sem, and_true, true_and, implies_true, reduceIte, Nat.reduceEqDiff, Nat.reduceAdd, Nat.reduceLT, Nat.mul_one, uc_put, uc_mv, entryS, List.append_assoc, List.cons_append, List.nil_append]
    ·exact absurd h4 (by simp)
   ·exact absurd h3 (by simp)
  ·exact absurd h2 (by simp)
 ·exact absurd h1 (by simp)

theorem table_ok : CallT Tryz.prog 173 [] [] fun x σ => x = .agg (uc tabS) ∧ σ = [] := by
 refine cof 13 [.cell 0 290] Tryz.func173 Tryz.ntmps173 fun c hnt hc0 => ?_
 refine sq fun _ k1 => rgn 1 ?_
 repeat refine ⟨sd, ?_⟩
 refine k1 (sq fun _ k2 => rgn 1 ?_)
 repeat refine ⟨sd, ?_⟩
 refine k2 (sq fun _ k3 => rgn 0 ?_)
 repeat refine ⟨sd, ?_⟩
 refine k3 (sq fun _ k4 => sq fun _ k5 => rgn 0 ?_)
 repeat refine ⟨sd, ?_⟩
 refine k5 (bk fun _ k6 => wps_loopU ?_)
 refine wpl_round fun K7 hK7 => sq fun _ k8 => rgn 0 ?_
 repeat refine ⟨sd, ?_⟩
 refine k8 (sq fun _ k9 => cd rfl (fun h1 => ?_) (fun h1 => ?_))
 ·refine wps_skip (k9 (sq fun _ k10 => bk fun _ k11 => sq fun _ k12 => rgn 0 ?_))
  repeat refine ⟨sd, ?_⟩
  refine k12 (rgn 0 ?_)
  repeat refine ⟨sd, ?_⟩
  have ht0 := tab1_ok 0 [0, 0, 0, 0, 0, 0, 0, 0, 0, 0, 0, 0, 0, 0, 0, 0] (by decide) rfl
  simp only [uc, List.map_cons, List.map_nil, List.take_succ_cons, List.take_zero, List.drop_succ_cons, List.drop_zero, List.cons_append, List.nil_append, Nat.reduceAdd, nl0, nl1, nl2, nl3, nl4, nl5, nl6, nl7, nl8, nl9, nl10, nl11, nl12, nl13, nl14, nl15] at ht0
  refine callT_at [1] [_] ht0 rfl rfl ⟨rfl, trivial⟩ mB mB rfl mR mR ?_
  refine evl ?_
  repeat refine ⟨sd, ?_⟩
  refine k11 (k10 (rgn 0 ?_))
  repeat refine ⟨sd, ?_⟩
  refine hK7 _ _ ?_
  refine wpl_round fun K13 hK13 => sq fun _ k14 => rgn 0 ?_
  repeat refine ⟨sd, ?_⟩
  refine k14 (sq fun _ k15 => cd rfl (fun h2 => ?_) (fun h2 => ?_))
  ·refine wps_skip (k15 (sq fun _ k16 => bk fun _ k17 => sq fun _ k18 => rgn 0 ?_))
   repeat refine ⟨sd, ?_⟩
   refine k18 (rgn 0 ?_)
   repeat refine ⟨sd, ?_⟩
   have ht1 := tab1_ok 1 [entryS 0, 0, 0, 0, 0, 0, 0, 0, 0, 0, 0, 0, 0, 0, 0, 0] (by decide) rfl
   simp only [uc, List.map_cons, List.map_nil, List.take_succ_cons, List.take_zero, List.drop_succ_cons, List.drop_zero, List.cons_append, List.nil_append, Nat.reduceAdd, nl0, nl1, nl2, nl3, nl4, nl5, nl6, nl7, nl8, nl9, nl10, nl11, nl12, nl13, nl14, nl15] at ht1
   refine callT_at [1] [_] ht1 rfl rfl ⟨rfl, trivial⟩ mB mB rfl mR mR ?_
   refine evl ?_
   repeat refine ⟨sd, ?_⟩
   refine k17 (k16 (rgn 0 ?_))
   repeat refine ⟨sd, ?_⟩
   refine hK13 _ _ ?_
   refine wpl_round fun K19 hK19 => sq fun _ k20 => rgn 0 ?_
   repeat refine ⟨sd, ?_⟩
   refine k20 (sq fun _ k21 => cd rfl (fun h3 => ?_) (fun h3 => ?_))
   ·refine wps_skip (k21 (sq fun _ k22 => bk fun _ k23 => sq fun _ k24 => rgn 0 ?_))
    repeat refine ⟨sd, ?_⟩
    refine k24 (rgn 0 ?_)
    repeat refine ⟨sd, ?_⟩
    have ht2 := tab1_ok 2 [entryS 0, entryS 1, 0, 0, 0, 0, 0, 0, 0, 0, 0, 0, 0, 0, 0, 0] (by decide) rfl
    simp only [uc, List.map_cons, List.map_nil, List.take_succ_cons, List.take_zero, List.drop_succ_cons, List.drop_zero, List.cons_append, List.nil_append, Nat.reduceAdd, nl0, nl1, nl2, nl3, nl4, nl5, nl6, nl7, nl8, nl9, nl10, nl11, nl12, nl13, nl14, nl15] at ht2
    refine callT_at [1] [_] ht2 rfl rfl ⟨rfl, trivial⟩ mB mB rfl mR mR ?_
    refine evl ?_
    repeat refine ⟨sd, ?_⟩
    refine k23 (k22 (rgn 0 ?_))
    repeat refine ⟨sd, ?_⟩
    refine hK19 _ _ ?_
    refine wpl_round fun K25 hK25 => sq fun _ k26 => rgn 0 ?_
    repeat refine ⟨sd, ?_⟩
    refine k26 (sq fun _ k27 => cd rfl (fun h4 => ?_) (fun h4 => ?_))
    ·refine wps_skip (k27 (sq fun _ k28 => bk fun _ k29 => sq fun _ k30 => rgn 0 ?_))
     repeat refine ⟨sd, ?_⟩
     refine k30 (rgn 0 ?_)
     repeat refine ⟨sd, ?_⟩
     have ht3 := tab1_ok 3 [entryS 0, entryS 1, entryS 2, 0, 0, 0, 0, 0, 0, 0, 0, 0, 0, 0, 0, 0] (by decide) rfl
     simp only [uc, List.map_cons, List.map_nil, List.take_succ_cons, List.take_zero, List.drop_succ_cons, List.drop_zero, List.cons_append, List.nil_append, Nat.reduceAdd, nl0, nl1, nl2, nl3, nl4, nl5, nl6, nl7, nl8, nl9, nl10, nl11, nl12, nl13, nl14, nl15] at ht3
     refine callT_at [1] [_] ht3 rfl rfl ⟨rfl, trivial⟩ mB mB rfl mR mR ?_
     refine evl ?_
     repeat refine ⟨sd, ?_⟩
     refine k29 (k28 (rgn 0 ?_))
     repeat refine ⟨sd, ?_⟩
     refine hK25 _ _ ?_
     refine wpl_round fun K31 hK31 => sq fun _ k32 => rgn 0 ?_
     repeat refine ⟨sd, ?_⟩
     refine k32 (sq fun _ k33 => cd rfl (fun h5 => ?_) (fun h5 => ?_))
     ·refine wps_skip (k33 (sq fun _ k34 => bk fun _ k35 => sq fun _ k36 => rgn 0 ?_))
      repeat refine ⟨sd, ?_⟩
      refine k36 (rgn 0 ?_)
      repeat refine ⟨sd, ?_⟩
      have ht4 := tab1_ok 4 [entryS 0, entryS 1, entryS 2, entryS 3, 0, 0, 0, 0, 0, 0, 0, 0, 0, 0, 0, 0] (by decide) rfl
      simp only [uc, List.map_cons, List.map_nil, List.take_succ_cons, List.take_zero, List.drop_succ_cons, List.drop_zero, List.cons_append, List.nil_append, Nat.reduceAdd, nl0, nl1, nl2, nl3, nl4, nl5, nl6, nl7, nl8, nl9, nl10, nl11, nl12, nl13, nl14, nl15] at ht4
      refine callT_at [1] [_] ht4 rfl rfl ⟨rfl, trivial⟩ mB mB rfl mR mR ?_
      refine evl ?_
      repeat refine ⟨sd, ?_⟩
      refine k35 (k34 (rgn 0 ?_))
      repeat refine ⟨sd, ?_⟩
      refine hK31 _ _ ?_
      refine wpl_round fun K37 hK37 => sq fun _ k38 => rgn 0 ?_
      repeat refine ⟨sd, ?_⟩
      refine k38 (sq fun _ k39 => cd rfl (fun h6 => ?_) (fun h6 => ?_))
      ·refine wps_skip (k39 (sq fun _ k40 => bk fun _ k41 => sq fun _ k42 => rgn 0 ?_))
       repeat refine ⟨sd, ?_⟩
       refine k42 (rgn 0 ?_)
       repeat refine ⟨sd, ?_⟩
       have ht5 := tab1_ok 5 [entryS 0, entryS 1, entryS 2, entryS 3, entryS 4, 0, 0, 0, 0, 0, 0, 0, 0, 0, 0, 0] (by decide) rfl
       simp only [uc, List.map_cons, List.map_nil, List.take_succ_cons, List.take_zero, List.drop_succ_cons, List.drop_zero, List.cons_append, List.nil_append, Nat.reduceAdd, nl0, nl1, nl2, nl3, nl4, nl5, nl6, nl7, nl8, nl9, nl10, nl11, nl12, nl13, nl14, nl15] at ht5
       refine callT_at [1] [_] ht5 rfl rfl ⟨rfl, trivial⟩ mB mB rfl mR mR ?_
       refine evl ?_
       repeat refine ⟨sd, ?_⟩
       refine k41 (k40 (rgn 0 ?_))
       repeat refine ⟨sd, ?_⟩
       refine hK37 _ _ ?_
       refine wpl_round fun K43 hK43 => sq fun _ k44 => rgn 0 ?_
       repeat refine ⟨sd, ?_⟩
       refine k44 (sq fun _ k45 => cd rfl (fun h7 => ?_) (fun h7 => ?_))
       ·refine wps_skip (k45 (sq fun _ k46 => bk fun _ k47 => sq fun _ k48 => rgn 0 ?_))
        repeat refine ⟨sd, ?_⟩
        refine k48 (rgn 0 ?_)
        repeat refine ⟨sd, ?_⟩
        have ht6 := tab1_ok 6 [entryS 0, entryS 1, entryS 2, entryS 3, entryS 4, entryS 5, 0, 0, 0, 0, 0, 0, 0, 0, 0, 0] (by decide) rfl
        simp only [uc, List.map_cons, List.map_nil, List.take_succ_cons, List.take_zero, List.drop_succ_cons, List.drop_zero, List.cons_append, List.nil_append, Nat.reduceAdd, nl0, nl1, nl2, nl3, nl4, nl5, nl6, nl7, nl8, nl9, nl10, nl11, nl12, nl13, nl14, nl15] at ht6
        refine callT_at [1] [_] ht6 rfl rfl ⟨rfl, trivial⟩ mB mB rfl mR mR ?_
        refine evl ?_
        repeat refine ⟨sd, ?_⟩
        refine k47 (k46 (rgn 0 ?_))
        repeat refine ⟨sd, ?_⟩
        refine hK43 _ _ ?_
        refine wpl_round fun K49 hK49 => sq fun _ k50 => rgn 0 ?_
        repeat refine ⟨sd, ?_⟩
        refine k50 (sq fun _ k51 => cd rfl (fun h8 => ?_) (fun h8 => ?_))
        ·refine wps_skip (k51 (sq fun _ k52 => bk fun _ k53 => sq fun _ k54 => rgn 0 ?_))
         repeat refine ⟨sd, ?_⟩
         refine k54 (rgn 0 ?_)
         repeat refine ⟨sd, ?_⟩
         have ht7 := tab1_ok 7 [entryS 0, entryS 1, entryS 2, entryS 3, entryS 4, entryS 5, entryS 6, 0, 0, 0, 0, 0, 0, 0, 0, 0] (by decide) rfl
         simp only [uc, List.map_cons, List.map_nil, List.take_succ_cons, List.take_zero, List.drop_succ_cons, List.drop_zero, List.cons_append, List.nil_append, Nat.reduceAdd, nl0, nl1, nl2, nl3, nl4, nl5, nl6, nl7, nl8, nl9, nl10, nl11, nl12, nl13, nl14, nl15] at ht7
         refine callT_at [1] [_] ht7 rfl rfl ⟨rfl, trivial⟩ mB mB rfl mR mR ?_
         refine evl ?_
         repeat refine ⟨sd, ?_⟩
         refine k53 (k52 (rgn 0 ?_))
         repeat refine ⟨sd, ?_⟩
         refine hK49 _ _ ?_
         refine wpl_round fun K55 hK55 => sq fun _ k56 => rgn 0 ?_
         repeat refine ⟨sd, ?_⟩
         refine k56 (sq fun _ k57 => cd rfl (fun h9 => ?_) (fun h9 => ?_))
         ·refine wps_skip (k57 (sq fun _ k58 => bk fun _ k59 => sq fun _ k60 => rgn 0 ?_))
          repeat refine ⟨sd, ?_⟩
          refine k60 (rgn 0 ?_)
          repeat refine ⟨sd, ?_⟩
          have ht8 := tab1_ok 8 [entryS 0, entryS 1, entryS 2, entryS 3, entryS 4, entryS 5, entryS 6, entryS 7, 0, 0, 0, 0, 0, 0, 0, 0] (by decide) rfl
          simp only [uc, List.map_cons, List.map_nil, List.take_succ_cons, List.take_zero, List.drop_succ_cons, List.drop_zero, List.cons_append, List.nil_append, Nat.reduceAdd, nl0, nl1, nl2, nl3, nl4, nl5, nl6, nl7, nl8, nl9, nl10, nl11, nl12, nl13, nl14, nl15] at ht8
          refine callT_at [1] [_] ht8 rfl rfl ⟨rfl, trivial⟩ mB mB rfl mR mR ?_
          refine evl ?_
          repeat refine ⟨sd, ?_⟩
          refine k59 (k58 (rgn 0 ?_))
          repeat refine ⟨sd, ?_⟩
          refine hK55 _ _ ?_
          refine wpl_round fun K61 hK61 => sq fun _ k62 => rgn 0 ?_
          repeat refine ⟨sd, ?_⟩
          refine k62 (sq fun _ k63 => cd rfl (fun h10 => ?_) (fun h10 => ?_))
          ·refine wps_skip (k63 (sq fun _ k64 => bk fun _ k65 => sq fun _ k66 => rgn 0 ?_))
           repeat refine ⟨sd, ?_⟩
           refine k66 (rgn 0 ?_)
           repeat refine ⟨sd, ?_⟩
           have ht9 := tab1_ok 9 [entryS 0, entryS 1, entryS 2, entryS 3, entryS 4, entryS 5, entryS 6, entryS 7, entryS 8, 0, 0, 0, 0, 0, 0, 0] (by decide) rfl
           simp only [uc, List.map_cons, List.map_nil, List.take_succ_cons, List.take_zero, List.drop_succ_cons, List.drop_zero, List.cons_append, List.nil_append, Nat.reduceAdd, nl0, nl1, nl2, nl3, nl4, nl5, nl6, nl7, nl8, nl9, nl10, nl11, nl12, nl13, nl14, nl15] at ht9
           refine callT_at [1] [_] ht9 rfl rfl ⟨rfl, trivial⟩ mB mB rfl mR mR ?_
           refine evl ?_
           repeat refine ⟨sd, ?_⟩
           refine k65 (k64 (rgn 0 ?_))
           repeat refine ⟨sd, ?_⟩
           refine hK61 _ _ ?_
           refine wpl_round fun K67 hK67 => sq fun _ k68 => rgn 0 ?_
           repeat refine ⟨sd, ?_⟩
           refine k68 (sq fun _ k69 => cd rfl (fun h11 => ?_) (fun h11 => ?_))
           ·refine wps_skip (k69 (sq fun _ k70 => bk fun _ k71 => sq fun _ k72 => rgn 0 ?_))
            repeat refine ⟨sd, ?_⟩
            refine k72 (rgn 0 ?_)
            repeat refine ⟨sd, ?_⟩
            have ht10 := tab1_ok 10 [entryS 0, entryS 1, entryS 2, entryS 3, entryS 4, entryS 5, entryS 6, entryS 7, entryS 8, entryS 9, 0, 0, 0, 0, 0, 0] (by decide) rfl
            simp only [uc, List.map_cons, List.map_nil, List.take_succ_cons, List.take_zero, List.drop_succ_cons, List.drop_zero, List.cons_append, List.nil_append, Nat.reduceAdd, nl0, nl1, nl2, nl3, nl4, nl5, nl6, nl7, nl8, nl9, nl10, nl11, nl12, nl13, nl14, nl15] at ht10
            refine callT_at [1] [_] ht10 rfl rfl ⟨rfl, trivial⟩ mB mB rfl mR mR ?_
            refine evl ?_
            repeat refine ⟨sd, ?_⟩
            refine k71 (k70 (rgn 0 ?_))
            repeat refine ⟨sd, ?_⟩
            refine hK67 _ _ ?_
            refine wpl_round fun K73 hK73 => sq fun _ k74 => rgn 0 ?_
            repeat refine ⟨sd, ?_⟩
            refine k74 (sq fun _ k75 => cd rfl (fun h12 => ?_) (fun h12 => ?_))
            ·refine wps_skip (k75 (sq fun _ k76 => bk fun _ k77 => sq fun _ k78 => rgn 0 ?_))
             repeat refine ⟨sd, ?_⟩
             refine k78 (rgn 0 ?_)
             repeat refine ⟨sd, ?_⟩
             have ht11 := tab1_ok 11 [entryS 0, entryS 1, entryS 2, entryS 3, entryS 4, entryS 5, entryS 6, entryS 7, entryS 8, entryS 9, entryS 10, 0, 0, 0, 0, 0] (by decide) rfl
             simp only [uc, List.map_cons, List.map_nil, List.take_succ_cons, List.take_zero, List.drop_succ_cons, List.drop_zero, List.cons_append, List.nil_append, Nat.reduceAdd, nl0, nl1, nl2, nl3, nl4, nl5, nl6, nl7, nl8, nl9, nl10, nl11, nl12, nl13, nl14, nl15] at ht11
             refine callT_at [1] [_] ht11 rfl rfl ⟨rfl, trivial⟩ mB mB rfl mR mR ?_
             refine evl ?_
             repeat refine ⟨sd, ?_⟩
             refine k77 (k76 (rgn 0 ?_))
             repeat refine ⟨sd, ?_⟩
             refine hK73 _ _ ?_
             refine wpl_round fun K79 hK79 => sq fun _ k80 => rgn 0 ?_
             repeat refine ⟨sd, ?_⟩
             refine k80 (sq fun _ k81 => cd rfl (fun h13 => ?_) (fun h13 => ?_))
             ·refine wps_skip (k81 (sq fun _ k82 => bk fun _ k83 => sq fun _ k84 => rgn 0 ?_))
              repeat refine ⟨sd, ?_⟩
              refine k84 (rgn 0 ?_)
              repeat refine ⟨sd, ?_⟩
              have ht12 := tab1_ok 12 [entryS 0, entryS 1, entryS 2, entryS 3, entryS 4, entryS 5, entryS 6, entryS 7, entryS 8, entryS 9, entryS 10, entryS 11, 0, 0, 0, 0] (by decide) rfl
              simp only [uc, List.map_cons, List.map_nil, List.take_succ_cons, List.take_zero, List.drop_succ_cons, List.drop_zero, List.cons_append, List.nil_append, Nat.reduceAdd, nl0, nl1, nl2, nl3, nl4, nl5, nl6, nl7, nl8, nl9, nl10, nl11, nl12, nl13, nl14, nl15] at ht12
              refine callT_at [1] [_] ht12 rfl rfl ⟨rfl, trivial⟩ mB mB rfl mR mR ?_
              refine evl ?_
              repeat refine ⟨sd, ?_⟩
              refine k83 (k82 (rgn 0 ?_))
              repeat refine ⟨sd, ?_⟩
              refine hK79 _ _ ?_
              refine wpl_round fun K85 hK85 => sq fun _ k86 => rgn 0 ?_
              repeat refine ⟨sd, ?_⟩
              refine k86 (sq fun _ k87 => cd rfl (fun h14 => ?_) (fun h14 => ?_))
              ·refine wps_skip (k87 (sq fun _ k88 => bk fun _ k89 => sq fun _ k90 => rgn 0 ?_))
               repeat refine ⟨sd, ?_⟩
               refine k90 (rgn 0 ?_)
               repeat refine ⟨sd, ?_⟩
               have ht13 := tab1_ok 13 [entryS 0, entryS 1, entryS 2, entryS 3, entryS 4, entryS 5, entryS 6, entryS 7, entryS 8, entryS 9, entryS 10, entryS 11, entryS 12, 0, 0, 0] (by decide) rfl
               simp only [uc, List.map_cons, List.map_nil, List.take_succ_cons, List.take_zero, List.drop_succ_cons, List.drop_zero, List.cons_append, List.nil_append, Nat.reduceAdd, nl0, nl1, nl2, nl3, nl4, nl5, nl6, nl7, nl8, nl9, nl10, nl11, nl12, nl13, nl14, nl15] at ht13
               refine callT_at [1] [_] ht13 rfl rfl ⟨rfl, trivial⟩ mB mB rfl mR mR ?_
               refine evl ?_
               repeat refine ⟨sd, ?_⟩
               refine k89 (k88 (rgn 0 ?_))
               repeat refine ⟨sd, ?_⟩
               refine hK85 _ _ ?_
               refine wpl_round fun K91 hK91 => sq fun _ k92 => rgn 0 ?_
               repeat refine ⟨sd, ?_⟩
               refine k92 (sq fun _ k93 => cd rfl (fun h15 => ?_) (fun h15 => ?_))
               ·refine wps_skip (k93 (sq fun _ k94 => bk fun _ k95 => sq fun _ k96 => rgn 0 ?_))
                repeat refine ⟨sd, ?_⟩
                refine k96 (rgn 0 ?_)
                repeat refine ⟨sd, ?_⟩
                have ht14 := tab1_ok 14 [entryS 0, entryS 1, entryS 2, entryS 3, entryS 4, entryS 5, entryS 6, entryS 7, entryS 8, entryS 9, entryS 10, entryS 11, entryS 12, entryS 13, 0, 0] (by decide) rfl
                simp only [uc, List.map_cons, List.map_nil, List.take_succ_cons, List.take_zero, List.drop_succ_cons, List.drop_zero, List.cons_append, List.nil_append, Nat.reduceAdd, nl0, nl1, nl2, nl3, nl4, nl5, nl6, nl7, nl8, nl9, nl10, nl11, nl12, nl13, nl14, nl15] at ht14
                refine callT_at [1] [_] ht14 rfl rfl ⟨rfl, trivial⟩ mB mB rfl mR mR ?_
                refine evl ?_
                repeat refine ⟨sd, ?_⟩
                refine k95 (k94 (rgn 0 ?_))
                repeat refine ⟨sd, ?_⟩
                refine hK91 _ _ ?_
                refine wpl_round fun K97 hK97 => sq fun _ k98 => rgn 0 ?_
                repeat refine ⟨sd, ?_⟩
                refine k98 (sq fun _ k99 => cd rfl (fun h16 => ?_) (fun h16 => ?_))
                ·refine wps_skip (k99 (sq fun _ k100 => bk fun _ k101 => sq fun _ k102 => rgn 0 ?_))
                 repeat refine ⟨sd, ?_⟩
                 refine k102 (rgn 0 ?_)
                 repeat refine ⟨sd, ?_⟩
                 have ht15 := tab1_ok 15 [entryS 0, entryS 1, entryS 2, entryS 3, entryS 4, entryS 5, entryS 6, entryS 7, entryS 8, entryS 9, entryS 10, entryS 11, entryS 12, entryS 13, entryS 14, 0] (by decide) rfl
                 simp only [uc, List.map_cons, List.map_nil, List.take_succ_cons, List.take_zero, List.drop_succ_cons, List.drop_zero, List.cons_append, List.nil_append, Nat.reduceAdd, nl0, nl1, nl2, nl3, nl4, nl5, nl6, nl7, nl8, nl9, nl10, nl11, nl12, nl13, nl14, nl15] at ht15
                 refine callT_at [1] [_] ht15 rfl rfl ⟨rfl, trivial⟩ mB mB rfl mR mR ?_
                 refine evl ?_
                 repeat refine ⟨sd, ?_⟩
                 refine k101 (k100 (rgn 0 ?_))
                 repeat refine ⟨sd, ?_⟩
                 refine hK97 _ _ ?_
                 refine wpl_round fun K103 hK103 => sq fun _ k104 => rgn 0 ?_
                 repeat refine ⟨sd, ?_⟩
                 refine k104 (sq fun _ k105 => cd rfl (fun h17 => ?_) (fun h17 => ?_))
                 ·exact absurd h17 (by simp)
                 ·refine wps_exit ?_
                  simp only [reduceIte, Nat.reduceEqDiff]
                  refine k6 (k4 (sq fun _ k106 => rgn 0 ?_))
                  repeat refine ⟨sd, ?_⟩
                  refine k106 (wps_ret ?_)
                  refine retL [] mA mO rfl rfl ?_
                  simp only [go_sem, and_true, true_and, implies_true, reduceIte, Nat.reduceEqDiff, Nat.reduceAdd, Nat.reduceLT, uc, tabS, List.map_cons, List.map_nil]
                ·exact absurd h16 (by simp)
               ·exact absurd h15 (by simp)
              ·exact absurd h14 (by simp)
             ·exact absurd h13 (by simp)
            ·exact absurd h12 (by simp)
           ·exact absurd h11 (by simp)
          ·exact absurd h10 (by simp)
         ·exact absurd h9 (by simp)
        ·exact absurd h8 (by simp)
       ·exact absurd h7 (by simp)
      ·exact absurd h6 (by simp)
     ·exact absurd h5 (by simp)
    ·exact absurd h4 (by simp)
   ·exact absurd h3 (by simp)
  ·exact absurd h2 (by simp)
 ·exact absurd h1 (by simp)

@[go_sem] theorem sgn32 : IntKind.u32.signed = false := rfl
@[go_sem] theorem sgn64 : IntKind.u64.signed = false := rfl

def inR (r : Int) : Prop := 0 ≤ r ∧ r < 4294967296
theorem wrap_inR (n : Int) : inR (IntKind.u32.wrap n) := by
 unfold inR IntKind.wrap
 simp [IntKind.bits, IntKind.signed]
 omega
theorem bits_inR (op : BinOp) (a b : Int) : inR (bits op .u32 a b) := by
 unfold bits; exact wrap_inR _
theorem xor16 : ∀ a b : Fin 16, 0 ≤ bits .xor .u32 (a.val : Int) (b.val : Int) ∧ bits .xor .u32 (a.val : Int) (b.val : Int) < 16 := by decide +kernel
theorem xor16' {a b : Int} (ha : 0 ≤ a ∧ a < 16) (hb : 0 ≤ b ∧ b < 16) : 0 ≤ bits .xor .u32 a b ∧ bits .xor .u32 a b < 16 := by
 have h := xor16 ⟨a.toNat, by omega⟩ ⟨b.toNat, by omega⟩
 have e1 : ((a.toNat : Nat) : Int) = a := by omega
 have e2 : ((b.toNat : Nat) : Int) = b := by omega
 simp only [e1, e2] at h
 exact h
theorem uc_at {l : List Int} {k : Nat} (h : k < l.length) : (uc l).getD k .j = .u (.i .u32 (l.getD k 0)) := by
 rw [List.getD_eq_getElem?_getD, uc, List.getElem?_map, List.getElem?_eq_getElem h, List.getD_eq_getElem?_getD, List.getElem?_eq_getElem h]; rfl
theorem uc_one (l : List Int) : (uc l).all SV.one = true := by
 unfold uc
 rw [List.all_map]
 exact List.all_eq_true.2 fun x _ => rfl
theorem and15 : ∀ w : Fin 256, 0 ≤ IntKind.u32.wrap (bits .and .u8 (w.val : Int) 15) ∧ IntKind.u32.wrap (bits .and .u8 (w.val : Int) 15) < 16 := by decide +kernel
theorem shr4 : ∀ w : Fin 256, 0 ≤ IntKind.u32.wrap ((w.val : Int).fdiv (2 ^ min 4 8)) ∧ IntKind.u32.wrap ((w.val : Int).fdiv (2 ^ min 4 8)) < 16 := by decide +kernel
theorem top4 {r : Int} (h : inR r) : 0 ≤ r.fdiv (2 ^ min 28 32) ∧ r.fdiv (2 ^ min 28 32) < 16 := by
 obtain ⟨h1, h2⟩ := h
 rw [Int.fdiv_eq_ediv_of_nonneg _ (by decide), show ((2 : Int) ^ min 28 32) = 268435456 from rfl]
 omega

def hiS (r : Int) (b : UInt8) : Int := bits .xor .u32 (r.fdiv (2 ^ min 28 32)) (IntKind.u32.wrap ((b.toNat : Int).fdiv (2 ^ min 4 8)))
def loS (r : Int) (b : UInt8) : Int := bits .xor .u32 (r.fdiv (2 ^ min 28 32)) (IntKind.u32.wrap (bits .and .u8 (b.toNat : Int) 15))
def onS (r i : Int) : Int := bits .xor .u32 (IntKind.u32.wrap (r * 2 ^ min 4 32)) (tabS.getD i.toNat 0)
def byteS (r : Int) (b : UInt8) : Int := onS (onS r (hiS r b)) (loS (onS r (hiS r b)) b)
theorem hi_ok {r : Int} (h : inR r) (b : UInt8) : 0 ≤ hiS r b ∧ hiS r b < 16 := xor16' (top4 h) (shr4 ⟨b.toNat, b.toNat_lt⟩)
theorem lo_ok {r : Int} (h : inR r) (b : UInt8) : 0 ≤ loS r b ∧ loS r b < 16 := xor16' (top4 h) (and15 ⟨b.toNat, b.toNat_lt⟩)
theorem on_inR (r i : Int) : inR (onS r i) := bits_inR _ _ _
def notS (r : Int) : Int := bits .xor .u32 IntKind.u32.max r
def crcS (l : List UInt8) : Int := notS (l.foldl byteS (notS 0))
theorem crc_inR (l : List UInt8) : inR (crcS l) := by
 unfold crcS notS
 exact bits_inR _ _ _
theorem fold_app (l : List UInt8) (b : UInt8) (r : Int) : (l ++ [b]).foldl byteS r = byteS (l.foldl byteS r) b := by simp
attribute [go_sem] uc_mv

theorem more_ok (l : List UInt8) (q : Option Nat) (hl : l.length ≤ 1000000) : CallT Tryz.prog 168 [.u (.i .u32 0), .u (.fz (bs l) q)] [] fun x σ => x = .u (.i .u32 (crcS l)) ∧ σ = [] := by
 have h16 : (uc tabS).length = 16 := rfl
 have hone := uc_one tabS
 refine cof 43 [.tmp 4] Tryz.func168 Tryz.ntmps168 fun c hnt hc0 => ?_
 refine sq fun _ k1 => rgn 0 ?_
 repeat refine ⟨sd, ?_⟩
 refine k1 (sq fun _ k2 => rg 1 ?_)
 refine evx2 h16 hone ?_
 repeat refine ⟨sd, ?_⟩
 refine callT_at [] [] table_ok rfl rfl trivial mB mB rfl mR mR ?_
 refine evx2 h16 hone ?_
 repeat refine ⟨sd, ?_⟩
 refine k2 (sq fun _ k3 => rgn 0 ?_)
 repeat refine ⟨sd, ?_⟩
 refine k3 (sq fun _ k4 => sq fun _ k5 => rgn 0 ?_)
 repeat refine ⟨sd, ?_⟩
 refine k5 (bk fun _ k6 => ?_)
 refine wps_loop (fun k e σ => ∃ (i : Nat) (r : Int), k = l.length - i ∧ i ≤ l.length ∧ inR r ∧ r = (l.take i).foldl byteS (notS 0) ∧ e = [(5, .p 0 0), (6, .u (.i .u32 r)), (12, .u (.fz (bs l) q)), (13, .u (.i .i64 (l.length : Int))), (14, .u (.i .i64 (i : Int)))] ∧ σ = [.cells (uc tabS)])
  (e0 := [(5, .p 0 0), (6, .u (.i .u32 (notS 0))), (12, .u (.fz (bs l) q)), (13, .u (.i .i64 (l.length : Int))), (14, .u (.i .i64 0))]) (σ0 := [.cells (uc tabS)]) (entL hc0 [some 0] rfl rfl (by simp only [go_sem, reduceIte, Nat.reduceEqDiff, notS]) mB) ⟨0, notS 0, rfl, Nat.zero_le _, bits_inR _ _ _, rfl, rfl, rfl⟩ fun KL k e1 σ1 hI hKL => ?_
 obtain ⟨i, r, rfl, hi, hr, hrf, rfl, rfl⟩ := hI
 refine sq fun _ k7 => rgn 0 ?_
 repeat refine ⟨sd, ?_⟩
 refine k7 (sq fun _ k8 => cd rfl (fun h1 => ?_) (fun h1 => ?_))
 ·simp at h1
  have hel := bs_at h1
  have hw1 := wi1 i
  obtain ⟨b, hb⟩ : ∃ b, l.getD i 0 = b := ⟨_, rfl⟩
  rw [hb] at hel
  have hhi := hi_ok hr b
  obtain ⟨x, hx⟩ : ∃ x, hiS r b = x := ⟨_, rfl⟩
  rw [hx] at hhi
  have hat1 := uc_at (l := tabS) (k := x.toNat) (by show x.toNat < 16; omega)
  have hr2 := on_inR r x
  have hlo := lo_ok hr2 b
  obtain ⟨y, hy⟩ : ∃ y, loS (onS r x) b = y := ⟨_, rfl⟩
  rw [hy] at hlo
  have hat2 := uc_at (l := tabS) (k := y.toNat) (by show y.toNat < 16; omega)
  have hxd := hx
  have hyd := hy
  unfold hiS at hxd
  unfold loS at hyd
  have hon1 : bits .xor .u32 (IntKind.u32.wrap (r * 2 ^ min 4 32)) (tabS.getD x.toNat 0) = onS r x := rfl
  have hon2 : bits .xor .u32 (IntKind.u32.wrap (onS r x * 2 ^ min 4 32)) (tabS.getD y.toNat 0) = onS (onS r x) y := rfl
  refine wps_skip (k8 (sq fun _ k9 => bk fun _ k10 => sq fun _ k11 => rg 0 ?_))
  refine evx hel ?_
  repeat refine ⟨sd, ?_⟩
  refine k11 (sq fun _ k12 => rg 0 ?_)
  simp only [↓kOps_app, ↓evOps_nil, ↓evOps_cons, go_sem, Int.reduceAdd, Int.reduceBEq, Int.reduceEq, Int.reduceLE, Int.reduceLT, Int.reduceNe, Int.reduceSub, Int.reduceToNat, Nat.reduceAdd, Nat.reduceBEq, Nat.reduceEqDiff, Nat.reduceLT, Nat.reduceLeDiff, Nat.reduceMul, Nat.reduceSub, reduceCtorEq, reduceIte, hxd, Nat.mul_one, hat1, hon1, h16]
  repeat refine ⟨sd, ?_⟩
  refine k12 (rg 0 ?_)
  simp only [↓kOps_app, ↓evOps_nil, ↓evOps_cons, go_sem, Int.reduceAdd, Int.reduceBEq, Int.reduceEq, Int.reduceLE, Int.reduceLT, Int.reduceNe, Int.reduceSub, Int.reduceToNat, Nat.reduceAdd, Nat.reduceBEq, Nat.reduceEqDiff, Nat.reduceLT, Nat.reduceLeDiff, Nat.reduceMul, Nat.reduceSub, reduceCtorEq, reduceIte, hyd, Nat.mul_one, hat2, hon2, h16]
  repeat refine ⟨sd, ?_⟩
  refine k10 (k9 (rg 0 ?_))
  refine evx hw1 ?_
  repeat refine ⟨sd, ?_⟩
  exact hKL _ _ (l.length - (i + 1)) _ _ (entL hc0 [some 0] rfl rfl mB mB) ⟨i + 1, onS (onS r x) y, rfl, by omega, on_inR _ _, by rw [btake_succ h1, fold_app, hb, ← hrf, byteS, hx, hy], rfl, rfl⟩ (by omega)
 ·have hil : i = l.length := by simp at h1; omega
  subst hil
  rw [List.take_length] at hrf
  refine wps_exit ?_
  simp only [reduceIte, Nat.reduceEqDiff]
  refine k6 (k4 (sq fun _ k13 => rgn 0 ?_))
  repeat refine ⟨sd, ?_⟩
  refine k13 (wps_ret ?_)
  refine retL [] rfl ⟨trivial, trivial⟩ rfl rfl ?_
  unfold crcS
  rw [← hrf]
  simp only [go_sem, reduceIte, notS]

theorem unbe_be4 {v : Nat} (h : v < 4294967296) : unbe (be4 v) = v := by
 simp [unbe, be4]; omega
theorem unbe_be8 {v : Nat} (h : v < 18446744073709551616) : unbe (be8 v) = v := by
 simp [unbe, be8]; omega
theorem be4_len (v : Nat) : (be4 v).length = 4 := rfl
theorem be8_len (v : Nat) : (be8 v).length = 8 := rfl
def sealS (l : List UInt8) : List UInt8 := l ++ be4 (crcS l).toNat
theorem seal_len (l : List UInt8) : (sealS l).length = l.length + 4 := by simp [sealS, be4_len]

theorem of_ok (l : List UInt8) (q : Option Nat) (hl : l.length ≤ 1000000) : CallT Tryz.prog 157 [.u (.fz (bs l) q)] [] fun x σ => x = .u (.i .u32 (crcS l)) ∧ σ = [] := by
 refine cof 5 [.tmp 2] Tryz.func157 Tryz.ntmps157 fun c hnt hc0 => ?_
 refine sq fun _ k1 => rgn 0 ?_
 repeat refine ⟨sd, ?_⟩
 refine k1 (sq fun _ k2 => rgn 0 ?_)
 repeat refine ⟨sd, ?_⟩
 refine callT_at [] [] (more_ok l q hl) rfl rfl trivial mB mB rfl mR mR ?_
 refine evl ?_
 repeat refine ⟨sd, ?_⟩
 refine k2 (wps_ret ?_)
 refine retL [] rfl ⟨trivial, trivial⟩ rfl rfl ?_
 exact mT

theorem seal_ok (l : List UInt8) (q : Option Nat) (hl : l.length ≤ 900000) : CallT Tryz.prog 131 [.u (.fz (bs l) q)] [] fun x σ => x = .h 0 ∧ σ = [] ++ [.row 5 1 (bs (sealS l))] := by
 have hr := crc_inR l
 unfold inR at hr
 have hw : IntKind.u64.wrap (crcS l) = (((crcS l).toNat : Nat) : Int) := by rw [wrapu64 (by omega) (by omega)]; omega
 have hp := nput4_ok l q (crcS l).toNat hl (by omega)
 refine cof 14 [.tmp 2] Tryz.func131 Tryz.ntmps131 fun c hnt hc0 => ?_
 refine sq fun _ k1 => rgn 0 ?_
 repeat refine ⟨sd, ?_⟩
 refine k1 (sq fun _ k2 => rg 0 ?_)
 refine evx hw ?_
 repeat refine ⟨sd, ?_⟩
 refine callT_at [] [] (of_ok l q (by omega)) rfl rfl trivial mB mB rfl mR mR ?_
 refine evx hw ?_
 repeat refine ⟨sd, ?_⟩
 refine callT_new hp mB ?_
 refine rtl ?_
 refine evx hw ?_
 repeat refine ⟨sd, ?_⟩
 refine k2 (sq fun _ k3 => rgn 0 ?_)
 repeat refine ⟨sd, ?_⟩
 refine k3 (wps_ret ?_)
 refine retL [some 0] rfl ⟨trivial, trivial⟩ rfl rfl ?_
 simp only [go_sem, and_true, true_and, implies_true, reduceIte, Nat.reduceEqDiff, Nat.reduceAdd, Nat.reduceLT, List.nil_append, sealS]

theorem open_ok (l : List UInt8) (q : Option Nat) (hl : l.length ≤ 900000) : CallT Tryz.prog 140 [.u (.fz (bs (sealS l)) q)] [] fun x σ => x = .tup [.u (.fz (bs l) none), .u (.i .i64 0)] ∧ σ = [] := by
 have hr := crc_inR l
 unfold inR at hr
 have hsl := seal_len l
 have hw : IntKind.u64.wrap (crcS l) = (((crcS l).toNat : Nat) : Int) := by rw [wrapu64 (by omega) (by omega)]; omega
 have hws : IntKind.i64.wrap (((l.length + 4 : Nat) : Int) - 4) = (l.length : Int) := by rw [wrap64 (by omega) (by omega)]; omega
 have htk : (sealS l).take l.length = l := by simp [sealS]
 have htl : (bs (sealS l)).take (l.length + 4) = bs (sealS l) := by rw [← hsl, ← bs_len, List.take_length]
 have hdr : (sealS l).drop l.length = be4 (crcS l).toNat := by simp [sealS]
 have hg := nget_ok (be4 (crcS l).toNat) (Option.map (fun x => x - l.length) q) 4 (by decide) (by decide) (by rw [be4_len]; decide) (by rw [be4_len]; decide)
 rw [show (be4 (crcS l).toNat).take 4 = be4 (crcS l).toNat from rfl, unbe_be4 (by omega)] at hg
 refine cof 34 [.tmp 2, .tmp 3] Tryz.func140 Tryz.ntmps140 fun c hnt hc0 => ?_
 refine sq fun _ k1 => rgn 0 ?_
 repeat refine ⟨sd, ?_⟩
 refine k1 (sq fun _ k2 => sq fun _ k3 => rg 0 ?_)
 refine evx hsl ?_
 repeat refine ⟨sd, ?_⟩
 refine k3 (cd rfl (fun h1 => ?_) (fun h1 => ?_))
 ·exact absurd h1 (by simp; omega)
 ·refine wps_skip (k2 (sq fun _ k4 => rg 1 ?_))
  refine evx4 hsl hws @bs_take htk ?_
  repeat refine ⟨sd, ?_⟩
  refine k4 (sq fun _ k5 => ?_)
  refine wps_ent (e' := [(0, .u (.fz (bs (sealS l)) q)), (4, .u (.fz (bs l) none))]) (σ' := []) ((entF 0 rfl (e' := [(0, .u (.fz (bs (sealS l)) q)), (4, .u (.fz (bs l) none))]) mB rfl).trans (entL hc0 [] rfl rfl mB mB)) ?_
  refine rg 0 ?_
  refine evx5 hsl hws htl @bs_drop hdr ?_
  repeat refine ⟨sd, ?_⟩
  refine callT_at [] [] hg rfl rfl trivial mB mB rfl mR mR ?_
  refine evx5 hsl hws htl @bs_drop hdr ?_
  repeat refine ⟨sd, ?_⟩
  refine k5 (sq fun _ k6 => sq fun _ k7 => rg 0 ?_)
  refine evx hw ?_
  repeat refine ⟨sd, ?_⟩
  refine callT_at [] [] (of_ok l none (by omega)) rfl rfl trivial mB mB rfl mR mR ?_
  refine evx hw ?_
  repeat refine ⟨sd, ?_⟩
  refine k7 (cd rfl (fun h2 => ?_) (fun h2 => ?_))
  ·exact absurd h2 (by simp)
  ·refine wps_skip (k6 (sq fun _ k8 => rgn 0 ?_))
   repeat refine ⟨sd, ?_⟩
   refine k8 (wps_ret ?_)
   refine retL [] mA mO rfl rfl ?_
   exact mT
end Go.Proofs.YtefipnajpabfgaaGreatDoor
