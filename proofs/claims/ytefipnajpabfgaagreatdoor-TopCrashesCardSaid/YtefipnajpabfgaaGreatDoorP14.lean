/- Part 14 of the proof: what functions of the program do, and plain facts on what they compute. -/
import Derived.Test.YtefipnajpabfgaaGreatDoorP13
set_option linter.all false
set_option maxRecDepth 40000
set_option maxHeartbeats 16000000
set_option linter.unusedSimpArgs false
set_option linter.unusedVariables false
namespace Go.Proofs.YtefipnajpabfgaaGreatDoor
open Go.Nm

theorem lastL_snoc (A : List Fnd) (f : Fnd) : lastL (A ++ [f]) = f.2.1 + f.2.2.length - 1 := by simp [lastL]
def isFirst : List Fnd → Bool
 | [] => false
 | f :: _ => f.2.1 == 1
theorem takenN_eq (all : List Fnd) : takenN all = if isFirst all then chainN all else 0 := by
 cases all <;> rfl
theorem base_first {all : List Fnd} (h : AllOK all) {k : Nat} (hk : k < all.length) : ((all.getD k (0, 0, [])).2.1 ≤ 1 ↔ k = 0 ∧ isFirst all = true) := by
 cases all with
 | nil => simp at hk
 | cons f r =>
  have hp := (h.pos f (by simp)).1
  have hinc := (List.pairwise_cons.1 h.inc).1
  cases k with
  | zero =>
   simp only [List.getD_cons_zero, isFirst, beq_iff_eq, true_and]; omega
  | succ k =>
   have hm : (f :: r).getD (k + 1) (0, 0, []) ∈ r := by
    rw [List.getD_cons_succ]; exact getD_mem (by simpa using hk)
   have := (hinc _ hm).1
   constructor
   ·intro h2; omega
   ·intro h2; omega
theorem next_ok {A B : List Fnd} {f : Fnd} {T : Nat} (hT : A.length + chainN (f :: B) = T) :
  (nxtOf f A.length B = ((A ++ [f]).length : Int) ∧ B ≠ [] ∧ (A ++ [f]).length + chainN B = T) ∨ (nxtOf f A.length B = -1 ∧ (A ++ [f]).length = T) := by
 cases B with
 | nil => right; refine ⟨rfl, ?_⟩; rw [← hT, chainN]; simp
 | cons g r =>
  rw [nxtOf]
  rw [chainN] at hT
  by_cases hc : g.2.1 = f.2.1 + f.2.2.length
  ·left; rw [if_pos hc] at hT ⊢
   refine ⟨by simp, by simp, ?_⟩
   rw [List.length_append, List.length_singleton]; omega
  ·right; rw [if_neg hc] at hT ⊢
   refine ⟨rfl, ?_⟩
   rw [List.length_append, List.length_singleton]; omega

theorem walopen_ok (v g : Sec) (F : Nat → Option (Nat × List (List UInt8))) (hv : SecOK v) (hF : ∀ i, i < 8 → SegIs v i (F i)) (hA : AllOK (foundL F 8)) : CallT Tryz.prog 46 [.p 0 0, .u (.i .i64 802), .u (.i .i64 8), .u (.i .i64 16), .u (.i .u64 0)] (dsk v g [])
  fun r σ => ∃ g' : Sec, g'.Perm (freeU (((foundL F 8).take (takenN (foundL F 8))).map segOf) 8 (v, [])).1 ∧ r = .tup [.p 4 0, .u (.fz ((outL ((foundL F 8).take (takenN (foundL F 8)))).map rrow) none), .u (.i .i64 0)] ∧
   σ = [.cells (dskC 1 5 6), .map ((freeU (((foundL F 8).take (takenN (foundL F 8))).map segOf) 8 (v, [])).1.map sent), .dead, .dead] ++
    [.cells [.p 0 0, .u (.i .i64 802), .u (.i .i64 8), .u (.i .i64 16), .u (.fz ((((foundL F 8).take (takenN (foundL F 8))).map segOf).map segrow) none), .u (.fz [] (some 0)), .u (.i .u64 ((lastL ((foundL F 8).take (takenN (foundL F 8)))) : Int)), .u (.i .u64 ((lastL ((foundL F 8).take (takenN (foundL F 8)))) : Int))], .map (g'.map sent), .row 116 1 []] := by
 have hlk := look_ok (.fz [] (some 0)) (.fz [] (some 0)) 0 0 v g [] F hv hF
 obtain ⟨all, hall⟩ : ∃ all, foundL F 8 = all := ⟨_, rfl⟩
 rw [hall] at hlk hA ⊢
 obtain ⟨T, hT⟩ : ∃ T, takenN all = T := ⟨_, rfl⟩
 rw [hT]
 have hal := hA.len
 have hT' := hT
 rw [takenN_eq] at hT'
 have hbf := fun k hk => @base_first all hA k hk
 obtain ⟨b0, hb0⟩ : ∃ b0, isFirst all = b0 := ⟨_, rfl⟩
 rw [hb0] at hT' hbf
 unfold wlg logC at hlk
 unfold dsk dskC at *
 simp only [List.map_nil, nl0] at hlk ⊢
 refine cof 142 [.tmp 10, .tmp 11, .tmp 12] Tryz.func46 Tryz.ntmps46 fun c hnt hc0 => ?_
 replace hc0 : c.β0.length = 4 := hc0
 refine sq fun _ k1 => rgn 0 ?_
 repeat refine ⟨sd, ?_⟩
 refine k1 (sq fun _ k2 => sq fun _ k3 => rg 0 ?_)
 simp only [↓kOps_app, ↓evOps_nil, ↓evOps_cons, go_sem, Int.reduceAdd, Int.reduceBEq, Int.reduceEq, Int.reduceLE, Int.reduceLT, Int.reduceNe, Int.reduceSub, Int.reduceToNat, Nat.reduceAdd, Nat.reduceBEq, Nat.reduceEqDiff, Nat.reduceLT, Nat.reduceLeDiff, Nat.reduceMul, Nat.reduceSub, reduceCtorEq, reduceIte, (by decide : IntKind.i64.wrap (8 * 16) = 128), (by decide : IntKind.i64.wrap (65536 - 128) = 65408), (by decide : IntKind.i64.wrap 65408 = 65408)]
 repeat refine ⟨sd, ?_⟩
 refine k3 (cd rfl (fun h1 => ?_) (fun h1 => ?_))
 ·exact absurd h1 (by simp)
 ·refine wps_skip (k2 (sq fun _ k4 => ?_))
  refine wps_keep [0, 1, 2, 3, 4] mK ?_
  refine rgn 2 ?_
  repeat refine ⟨sd, ?_⟩
  refine k4 (sq fun _ k5 => rgn 0 ?_)
  repeat refine ⟨sd, ?_⟩
  refine callT_at [4, 0, 1, 2, 3] [_, _, _, _, _] hlk rfl rfl ⟨rfl, rfl, rfl, rfl, rfl, trivial⟩ mB mB rfl mR mR ?_
  refine evl ?_
  repeat refine ⟨sd, ?_⟩
  refine k5 (sq fun _ k6 => ?_)
  refine wps_keep [4, 13, 14] mK ?_
  refine rgn 0 ?_
  repeat refine ⟨sd, ?_⟩
  refine k6 (sq fun _ k7 => sq fun _ k8 => rgn 0 ?_)
  repeat refine ⟨sd, ?_⟩
  refine k8 (bk fun _ k9 => ?_)
  refine wps_loop (fun m e σ => ∃ (k : Nat) (fi : Int), m = all.length - k ∧ k ≤ all.length ∧ fi = (if b0 = true ∧ 0 < k then 0 else -1) ∧ e = [(4, .u (.i .u64 0)), (13, .p 5 0), (14, .u (.fz (all.map frow) none)), (15, .u (.i .i64 fi)), (56, .u (.fz (all.map frow) none)), (57, .u (.i .i64 (all.length : Int))), (58, .u (.i .i64 (k : Int)))] ∧ σ = [.cells [.u (.i .i64 1000), .u (.i .i64 1000), .h 1, .h 2, .h 3], .map ((v).map sent), .map (g.map sent), .row 116 1 [], .cells [.p 0 0, .u (.i .i64 802), .u (.i .i64 8), .u (.i .i64 16), .u (.fz [] (some 0)), .u (.fz [] (some 0)), .u (.i .u64 ((0 : Nat) : Int)), .u (.i .u64 0)], .cells [.p 4 0]])
   (e0 := [(4, .u (.i .u64 0)), (13, .p 5 0), (14, .u (.fz (all.map frow) none)), (15, .u (.i .i64 (-1))), (56, .u (.fz (all.map frow) none)), (57, .u (.i .i64 (all.length : Int))), (58, .u (.i .i64 0))]) (σ0 := [.cells [.u (.i .i64 1000), .u (.i .i64 1000), .h 1, .h 2, .h 3], .map ((v).map sent), .map (g.map sent), .row 116 1 [], .cells [.p 0 0, .u (.i .i64 802), .u (.i .i64 8), .u (.i .i64 16), .u (.fz [] (some 0)), .u (.fz [] (some 0)), .u (.i .u64 ((0 : Nat) : Int)), .u (.i .u64 0)], .cells [.p 4 0]]) (entL hc0 [some 0, some 1, some 2, some 3, some 4, some 5] rfl rfl mB mB) ⟨0, -1, rfl, Nat.zero_le _, by simp, rfl, rfl⟩ fun KL k e1 σ1 hI hKL => ?_
  obtain ⟨k, fi, rfl, hk, hfi, rfl, rfl⟩ := hI
  refine sq fun _ k10 => rgn 0 ?_
  repeat refine ⟨sd, ?_⟩
  refine k10 (sq fun _ k11 => cd rfl (fun h2 => ?_) (fun h2 => ?_))
  ·have hlt : k < all.length := by simpa using h2
   have hel := frow_at hlt
   have hel0 := frow_at (l := all) (i := 0) (by omega)
   have hbfk := hbf k hlt
   have hpos := hA.pos _ (getD_mem (d := ((0, 0, []) : Fnd)) hlt)
   obtain ⟨fk, hfk⟩ : ∃ fk, all.getD k (0, 0, []) = fk := ⟨_, rfl⟩
   rw [hfk] at hel hbfk hpos
   have hw1 := wi1 k
   have hwu1 : IntKind.u64.wrap 1 = 1 := by decide
   have hwu2 : IntKind.u64.wrap ((fk.2.1 : Int) + (fk.2.2.length : Int)) = ((fk.2.1 + fk.2.2.length : Nat) : Int) := by rw [wrapu64 (by omega) (by omega)]; omega
   have hd2 : decide ((1 : Int) ≤ ((fk.2.1 + fk.2.2.length : Nat) : Int)) = true := decide_eq_true (by omega)
   have hfi0 : fi.toNat = 0 := by rw [hfi]; split <;> rfl
   refine wps_skip (k11 (sq fun _ k12 => bk fun _ k13 => sq fun _ k14 => rg 1 ?_))
   refine evx hel ?_
   repeat refine ⟨sd, ?_⟩
   refine k14 (sq fun _ k15 => ?_)
   rcases Nat.lt_or_ge 1 fk.2.1 with hgt | hle
   rotate_left
   ·obtain ⟨hk0, hbt⟩ := hbfk.1 hle
    subst hk0 hbt
    have hfi1 : fi = -1 := by rw [hfi]; simp
    subst hfi1
    have hd1 : decide ((fk.2.1 : Int) ≤ 1) = true := decide_eq_true (by omega)
    refine dr 0 [0, 1, 3, 0, 8, 31, 63, 127, 255, 511, 127, 1151, 3199, 8191, 127, 16511, 65535, 131071, 262143, 524287, 1048575, 2097151, 4194303, 8388607, 16777215, 4194303, 4194303, 104857599, 239075327, 507510783, 1044381695, 2147483647, 4294967295, 8589934591] mixed ?_
    simp only [↓kOps_app, ↓evOps_nil, ↓evOps_cons, go_sem, Int.reduceAdd, Int.reduceBEq, Int.reduceEq, Int.reduceLE, Int.reduceLT, Int.reduceNe, Int.reduceSub, Int.reduceToNat, Nat.reduceAdd, Nat.reduceBEq, Nat.reduceEqDiff, Nat.reduceLT, Nat.reduceLeDiff, Nat.reduceMul, Nat.reduceSub, reduceCtorEq, reduceIte, hwu1, hwu2, hd1, hd2, hfi0, hel0]
    repeat refine ⟨sd, ?_⟩
    refine k15 (cd rfl (fun h3 => ?_) (fun h3 => ?_))
    ·refine wps_keep [4, 13, 14, 16, 56, 57, 58] mK ?_
     refine rgn 0 ?_
     repeat refine ⟨sd, ?_⟩
     refine k13 (k12 (rg 0 ?_))
     refine evx hw1 ?_
     repeat refine ⟨sd, ?_⟩
     exact hKL _ _ (all.length - 1) _ _ (entL hc0 [some 0, some 1, some 2, some 3, some 4, some 5] rfl rfl mB mB) ⟨1, 0, rfl, by omega, by simp, rfl, rfl⟩ (by omega)
    ·exact absurd h3 (by simp)
   ·have hd1 : decide ((fk.2.1 : Int) ≤ 1) = false := decide_eq_false (by omega)
    have hfin : fi = (if b0 = true ∧ 0 < k + 1 then 0 else -1) := by
     rw [hfi]
     by_cases hb : b0 = true
     ·have : k ≠ 0 := fun h => by have := hbfk.2 ⟨h, hb⟩; omega
      rw [if_pos ⟨hb, by omega⟩, if_pos ⟨hb, by omega⟩]
     ·rw [if_neg (fun h => hb h.1), if_neg (fun h => hb h.1)]
    refine dr 0 [0, 1, 3, 0, 8, 31, 63, 127, 255, 511, 127, 1151, 3199, 8191, 127, 16511, 65535, 131071, 262143, 524287, 1048575, 2097151, 4194303, 8388607, 16777215, 4194303, 4194303, 104857599, 239075327, 507510783, 1044381695, 2147483647, 4294967295, 8589934591] mixed ?_
    simp only [↓kOps_app, ↓evOps_nil, ↓evOps_cons, go_sem, Int.reduceAdd, Int.reduceBEq, Int.reduceEq, Int.reduceLE, Int.reduceLT, Int.reduceNe, Int.reduceSub, Int.reduceToNat, Nat.reduceAdd, Nat.reduceBEq, Nat.reduceEqDiff, Nat.reduceLT, Nat.reduceLeDiff, Nat.reduceMul, Nat.reduceSub, reduceCtorEq, reduceIte, hwu1, hwu2, hd1, hd2, hfi0, hel0]
    repeat refine ⟨sd, ?_⟩
    refine k15 (cd rfl (fun h3 => ?_) (fun h3 => ?_))
    ·exact absurd h3 (by simp)
    ·refine wps_skip (k13 (k12 ?_))
     refine wps_keep [4, 13, 14, 15, 56, 57, 58] mK ?_
     refine rg 0 ?_
     refine evx hw1 ?_
     repeat refine ⟨sd, ?_⟩
     exact hKL _ _ (all.length - (k + 1)) _ _ (entL hc0 [some 0, some 1, some 2, some 3, some 4, some 5] rfl rfl mB mB) ⟨k + 1, fi, rfl, by omega, hfin, rfl, rfl⟩ (by omega)
  ·have hkl : k = all.length := by simp at h2; omega
   subst hkl
   have hfiT : (fi = 0 ∧ all ≠ [] ∧ chainN all = T) ∨ (fi = -1 ∧ T = 0) := by
    by_cases hb : b0 = true
    ·have hne : all ≠ [] := by
      intro h
      rw [h] at hb0
      rw [← hb0] at hb
      simp [isFirst] at hb
     have hpos : 0 < all.length := List.length_pos_iff.2 hne
     left
     rw [if_pos hb] at hT'
     exact ⟨by rw [hfi, if_pos ⟨hb, hpos⟩], hne, hT'⟩
    ·right
     rw [if_neg hb] at hT'
     exact ⟨by rw [hfi, if_neg (fun h => hb h.1)], hT'.symm⟩
   refine wps_exit ?_
   simp only [reduceIte, Nat.reduceEqDiff]
   refine k9 (k7 (sq fun _ k16 => rgn 0 ?_))
   repeat refine ⟨sd, ?_⟩
   refine k16 (sq fun _ k17 => sq fun _ k18 => rgn 0 ?_)
   repeat refine ⟨sd, ?_⟩
   refine k18 (bk fun _ k19 => ?_)
   refine wps_loop (fun m e σ => ∃ (A B : List Fnd) (nx : Int), m = B.length ∧ all = A ++ B ∧ ((nx = (A.length : Int) ∧ B ≠ [] ∧ A.length + chainN B = T) ∨ (nx = -1 ∧ A.length = T)) ∧ e = [(4, .u (.i .u64 0)), (13, .p 5 0), (14, .u (.fz (all.map frow) none)), (18, .h 7), (19, .u (.i .i64 nx))] ∧ σ = [.cells [.u (.i .i64 1000), .u (.i .i64 1000), .h 1, .h 2, .h 3], .map ((v).map sent), .map (g.map sent), .row 116 1 [], .cells [.p 0 0, .u (.i .i64 802), .u (.i .i64 8), .u (.i .i64 16), .h 6, .u (.fz [] (some 0)), .u (.i .u64 ((lastL A) : Int)), .u (.i .u64 0)], .cells [.p 4 0], .row 169 3 ((A.map segOf).map segrow), .row 127 2 ((outL A).map rrow)])
    (e0 := [(4, .u (.i .u64 0)), (13, .p 5 0), (14, .u (.fz (all.map frow) none)), (18, .h 7), (19, .u (.i .i64 fi))]) (σ0 := [.cells [.u (.i .i64 1000), .u (.i .i64 1000), .h 1, .h 2, .h 3], .map ((v).map sent), .map (g.map sent), .row 116 1 [], .cells [.p 0 0, .u (.i .i64 802), .u (.i .i64 8), .u (.i .i64 16), .h 6, .u (.fz [] (some 0)), .u (.i .u64 ((0 : Nat) : Int)), .u (.i .u64 0)], .cells [.p 4 0], .row 169 3 [], .row 127 2 []]) (((ent_thawC 4 4 169 3 rfl rfl).trans (ent_thaw 127 2 (t := 18) rfl)).trans (entL hc0 [some 0, some 1, some 2, some 3, some 4, some 5, some 6, some 7] rfl rfl mB mB)) ⟨[], all, fi, rfl, rfl, by
     rcases hfiT with ⟨h1, h2, h3⟩ | ⟨h1, h2⟩
     ·exact .inl ⟨h1, h2, by rw [← h3]; simp⟩
     ·exact .inr ⟨h1, h2.symm⟩, rfl, rfl⟩ fun KL m e1 σ1 hI hKL => ?_
   obtain ⟨A, B, nx, rfl, hAB, hnx, rfl, rfl⟩ := hI
   refine sq fun _ k20 => sq fun _ k21 => ?_
   rcases hnx with ⟨hnx, hBn, hTc⟩ | ⟨hnx, hTc⟩
   ·subst hnx
    obtain ⟨f, B, rfl⟩ : ∃ f B', B = f :: B' := by
     cases B with
     | nil => exact absurd rfl hBn
     | cons f r => exact ⟨f, r, rfl⟩
    have hge : decide ((0 : Int) ≤ (A.length : Int)) = true := decide_eq_true (by omega)
    have hlt : A.length < all.length := by rw [hAB]; simp
    have hel := frow_at hlt
    have hfg : all.getD A.length (0, 0, []) = f := by rw [hAB, List.getD_eq_getElem?_getD, List.getElem?_append_right (Nat.le_refl _)]; simp
    rw [hfg] at hel
    have hpos := hA.pos f (by rw [hAB]; simp)
    have hAl : A.length ≤ 8 := by omega
    have htk := wtake_ok (A.map segOf) (lastL A) 0 v g [] f (by simp; omega) hpos.1 (by omega)
    have hol := outL_len (all := A) (fun x hx => by have := hA.pos x (by rw [hAB]; simp [hx]); omega)
    have hml : ((recList f.2.1 f.2.2).map rrow).length = f.2.2.length := by rw [List.length_map, recList_len]
    obtain ⟨hr1, hr2⟩ := rrow_ok (outL A)
    obtain ⟨hr3, hr4⟩ := rrow_ok (recList f.2.1 f.2.2)
    simp only [PV.one] at hr4
    have hrl := recList_len f.2.2 f.2.1
    have hfi2 := fndidx_ok ((A ++ [f]).map segOf) (f.2.1 + f.2.2.length - 1) 0 v g [] all none (by simp; omega) (by omega) (fun x hx => by have := hA.pos x hx; omega) (by omega)
    rw [nxt_step hA hAB] at hfi2
    have hnext := next_ok hTc
    have hsg : A.map segOf ++ [(f.1, f.2.1, f.2.2.length)] = (A ++ [f]).map segOf := by simp [segOf]
    rw [hsg] at htk
    unfold wlr logR dskC at htk hfi2
    simp only [List.map_nil, nl0, List.cons_append, List.nil_append] at htk hfi2
    refine rg 0 ?_
    refine evx hge ?_
    repeat refine ⟨sd, ?_⟩
    refine k21 (cd rfl (fun h4 => ?_) (fun h4 => ?_))
    ·refine wps_skip (k20 (bk fun _ k22 => sq fun _ k23 => dr 2 [0, 0, 0, 0, 12, 28, 0, 126, 255, 511] mixed ?_))
     refine evx hel ?_
     repeat refine ⟨sd, ?_⟩
     refine callE_N [4, 0, 1, 2, 3, 6] [_, _, _, _, _, _] [9] htk rfl rfl ⟨rfl, rfl, rfl, rfl, rfl, rfl, rfl, trivial⟩ mB mB rfl mR mR ?_
     refine evx hel ?_
     repeat refine ⟨sd, ?_⟩
     refine k23 (rgn 0 ?_)
     repeat refine ⟨sd, ?_⟩
     refine callT_at [4, 0, 1, 2, 3, 9, 5] [_, _, _, _, _, _, _] hfi2 rfl rfl ⟨rfl, rfl, rfl, rfl, rfl, rfl, rfl, trivial⟩ mB mB rfl mR mR ?_
     refine evl ?_
     repeat refine ⟨sd, ?_⟩
     refine k22 ?_
     exact hKL _ _ B.length _ [.cells [.u (.i .i64 1000), .u (.i .i64 1000), .h 1, .h 2, .h 3], .map ((v).map sent), .map (g.map sent), .row 116 1 [], .cells [.p 0 0, .u (.i .i64 802), .u (.i .i64 8), .u (.i .i64 16), .h 6, .u (.fz [] (some 0)), .u (.i .u64 ((lastL (A ++ [f])) : Int)), .u (.i .u64 0)], .cells [.p 4 0], .row 169 3 (((A ++ [f]).map segOf).map segrow), .row 127 2 ((outL (A ++ [f])).map rrow)] (entL hc0 [some 0, some 1, some 2, some 3, some 4, some 5, some 9, some 8] rfl rfl mB (by rw [lastL_snoc, show (outL (A ++ [f])).map rrow = (outL A).map rrow ++ (recList f.2.1 f.2.2).map rrow from by rw [outL_app, List.map_append]; simp [outL]]; simp only [go_sem, reduceIte, Nat.reduceEqDiff, Nat.reduceAdd, Nat.reduceLT])) ⟨A ++ [f], B, nxtOf f A.length B, rfl, by rw [hAB]; simp, hnext, rfl, rfl⟩ (by simp)
    ·exact absurd h4 (by simp)
   ·subst hnx
    have hge : decide ((0 : Int) ≤ -1) = false := by decide
    refine rg 0 ?_
    refine evx hge ?_
    repeat refine ⟨sd, ?_⟩
    refine k21 (cd rfl (fun h4 => ?_) (fun h4 => ?_))
    ·exact absurd h4 (by simp)
    ·have hAT : all.take T = A := by rw [hAB, ← hTc, List.take_left]
     rw [hAT]
     have hAl : A.length ≤ 8 := by
      have := congrArg List.length hAB
      rw [List.length_append] at this; omega
     have hll : lastL A ≤ 2000000 := by
      unfold lastL
      cases hg : A.getLast? with
      | none => simp
      | some f =>
       have hm : f ∈ all := by rw [hAB]; exact List.mem_append_left _ (List.mem_of_getLast? hg)
       have := hA.pos f hm
       simp only; omega
     obtain ⟨l, hl⟩ : ∃ l, A.map segOf = l := ⟨_, rfl⟩
     have hlle : l.length ≤ 8 := by rw [← hl]; simpa using hAl
     rw [hl]
     refine wps_exit ?_
     simp only [reduceIte, Nat.reduceEqDiff]
     refine k19 (k17 (sq fun _ k24 => sq fun _ k25 => rgn 0 ?_))
     repeat refine ⟨sd, ?_⟩
     refine k25 (bk fun _ k26 => ?_)
     refine wps_loop (fun m e σ => ∃ (n : Nat), m = 8 - n ∧ n ≤ 8 ∧ e = [(4, .u (.i .u64 0)), (13, .p 5 0), (18, .h 7), (117, .u (.i .i64 8)), (118, .u (.i .i64 (n : Int)))] ∧ σ = [.cells [.u (.i .i64 1000), .u (.i .i64 1000), .h 1, .h 2, .h 6], .map ((((freeU l n (v, [])).1)).map sent), .map (g.map sent), .dead, .cells [.p 0 0, .u (.i .i64 802), .u (.i .i64 8), .u (.i .i64 16), .u (.fz (l.map segrow) none), .u (.fz [] (some 0)), .u (.i .u64 ((lastL A) : Int)), .u (.i .u64 0)], .cells [.p 4 0], .row 116 1 (((freeU l n (v, [])).2).map prow), .row 127 2 ((outL A).map rrow)])
      (e0 := [(4, .u (.i .u64 0)), (13, .p 5 0), (18, .h 7), (117, .u (.i .i64 8)), (118, .u (.i .i64 0))]) (σ0 := [.cells [.u (.i .i64 1000), .u (.i .i64 1000), .h 1, .h 2, .h 6], .map ((v).map sent), .map (g.map sent), .dead, .cells [.p 0 0, .u (.i .i64 802), .u (.i .i64 8), .u (.i .i64 16), .u (.fz (l.map segrow) none), .u (.fz [] (some 0)), .u (.i .u64 ((lastL A) : Int)), .u (.i .u64 0)], .cells [.p 4 0], .row 116 1 [], .row 127 2 ((outL A).map rrow)])
      ((entF 6 rfl (e' := [(4, .u (.i .u64 0)), (13, .p 5 0), (18, .h 7), (117, .u (.i .i64 8)), (118, .u (.i .i64 0))]) mB rfl).trans (entL2 hc0 [some 0, some 1, some 2, none, some 4, some 5, some 3, some 7] rfl rfl mB mB)) ⟨0, rfl, Nat.zero_le _, rfl, rfl⟩ fun KL m e1 σ1 hI hKL => ?_
     obtain ⟨n, rfl, hn, rfl, rfl⟩ := hI
     refine sq fun _ k27 => rgn 0 ?_
     repeat refine ⟨sd, ?_⟩
     refine k27 (sq fun _ k28 => cd rfl (fun h5 => ?_) (fun h5 => ?_))
     ·have hlt : n < 8 := by simp at h5; omega
      have hw1 := wi1 n
      have hpl := freeU_len l (v, []) n
      have hfs : freeU l (n + 1) (v, []) = if usedB n l then freeU l n (v, []) else freeI n 16 (freeU l n (v, [])) := rfl
      obtain ⟨v1, P1, hvp⟩ : ∃ v1 P1, freeU l n (v, []) = (v1, P1) := ⟨_, _, rfl⟩
      rw [hvp] at hpl hfs
      simp only [hvp, List.length_nil, Nat.zero_add] at hpl ⊢
      have hus := used_ok l none (.fz [] (some 0)) (lastL A) 0 v1 g P1 n (by omega)
      have hfr := free_ok (.fz (l.map segrow) none) (.fz [] (some 0)) (lastL A) 0 v1 g P1 n hlt (by omega)
      unfold wlg logC dskC at hus hfr
      unfold wlgN logC dskC at hfr
      simp only [nl0] at hus hfr
      refine wps_skip (k28 (sq fun _ k29 => bk fun _ k30 => sq fun _ k31 => rgn 0 ?_))
      repeat refine ⟨sd, ?_⟩
      refine k31 (sq fun _ k32 => rgn 0 ?_)
      repeat refine ⟨sd, ?_⟩
      refine callT_at [4, 0, 1, 2, 6] [_, _, _, _, _] hus rfl rfl ⟨rfl, rfl, rfl, rfl, rfl, trivial⟩ mB mB rfl mR mR ?_
      refine evl ?_
      repeat refine ⟨sd, ?_⟩
      refine k32 (cd rfl (fun h6 => ?_) (fun h6 => ?_))
      ·have hub : usedB n l = false := by simpa using h6
       rw [if_neg (by rw [hub]; simp)] at hfs
       refine rgn 0 ?_
       repeat refine ⟨sd, ?_⟩
       refine callT_atN [4, 0, 1, 2, 6] [_, _, _, _, _] hfr rfl rfl ⟨rfl, rfl, rfl, rfl, rfl, trivial⟩ mB mB rfl ?_
       refine fxl ?_
       refine evl ?_
       repeat refine ⟨sd, ?_⟩
       refine k30 (k29 (rg 0 ?_))
       refine evx hw1 ?_
       repeat refine ⟨sd, ?_⟩
       exact hKL _ _ (8 - (n + 1)) _ [.cells [.u (.i .i64 1000), .u (.i .i64 1000), .h 1, .h 2, .h 6], .map ((((freeU l (n + 1) (v, [])).1)).map sent), .map (g.map sent), .dead, .cells [.p 0 0, .u (.i .i64 802), .u (.i .i64 8), .u (.i .i64 16), .u (.fz (l.map segrow) none), .u (.fz [] (some 0)), .u (.i .u64 ((lastL A) : Int)), .u (.i .u64 0)], .cells [.p 4 0], .row 116 1 (((freeU l (n + 1) (v, [])).2).map prow), .row 127 2 ((outL A).map rrow)] (entL2 hc0 [some 0, some 1, some 2, none, some 4, some 5, some 8, some 7] rfl rfl mB (by rw [hfs]; simp only [go_sem, reduceIte, Nat.reduceEqDiff, Nat.reduceAdd, Nat.reduceLT])) ⟨n + 1, rfl, by omega, rfl, rfl⟩ (by omega)
      ·have hub : usedB n l = true := by simpa using h6
       rw [if_pos hub] at hfs
       refine wps_skip (k30 (k29 (rg 0 ?_)))
       refine evx hw1 ?_
       repeat refine ⟨sd, ?_⟩
       exact hKL _ _ (8 - (n + 1)) _ [.cells [.u (.i .i64 1000), .u (.i .i64 1000), .h 1, .h 2, .h 6], .map ((((freeU l (n + 1) (v, [])).1)).map sent), .map (g.map sent), .dead, .cells [.p 0 0, .u (.i .i64 802), .u (.i .i64 8), .u (.i .i64 16), .u (.fz (l.map segrow) none), .u (.fz [] (some 0)), .u (.i .u64 ((lastL A) : Int)), .u (.i .u64 0)], .cells [.p 4 0], .row 116 1 (((freeU l (n + 1) (v, [])).2).map prow), .row 127 2 ((outL A).map rrow)] (entL hc0 [some 0, some 1, some 2, some 3, some 4, some 5, some 6, some 7] rfl rfl mB (by rw [hfs]; simp only [go_sem, reduceIte, Nat.reduceEqDiff, Nat.reduceAdd, Nat.reduceLT])) ⟨n + 1, rfl, by omega, rfl, rfl⟩ (by omega)
     ·have hn8 : n = 8 := by simp at h5; omega
      subst hn8
      have hv1 := freeU_ok l (s := (v, [])) hv 8
      obtain ⟨v1, P1, hvp⟩ : ∃ v1 P1, freeU l 8 (v, []) = (v1, P1) := ⟨_, _, rfl⟩
      rw [hvp] at hv1
      simp only [hvp] at hv1 ⊢
      have hws := wsync_ok (.fz (l.map segrow) none) (.fz [] (some 0)) (lastL A) 0 v1 g P1 hv1
      unfold wlg logC dskC at hws
      simp only [nl0] at hws
      have hmx : max (lastL A : Int) 0 = (lastL A : Int) := by omega
      refine wps_exit ?_
      simp only [reduceIte, Nat.reduceEqDiff]
      refine k26 (k24 (sq fun _ k33 => dr 0 [0, 0, 2, 6, 14, 0, 62, 127, 255, 511] mixed ?_))
      refine evx hmx ?_
      repeat refine ⟨sd, ?_⟩
      refine k33 (sq fun _ k34 => rgn 0 ?_)
      repeat refine ⟨sd, ?_⟩
      refine callT_atNE [4, 0, 1, 2, 6] [_, _, _, _, _] hws rfl rfl ⟨rfl, rfl, rfl, rfl, rfl, trivial⟩ mB mB (fun _ => rfl) (fun g' hg' => ?_)
      refine fxl ?_
      refine evl ?_
      repeat refine ⟨sd, ?_⟩
      refine k34 (sq fun _ k35 => rgn 0 ?_)
      repeat refine ⟨sd, ?_⟩
      refine k35 ?_
      refine wps_ent (e' := [(10, .p 4 0), (11, .u (.fz ((outL A).map rrow) none)), (12, .u (.i .i64 0))]) (σ' := [.cells [.u (.i .i64 1000), .u (.i .i64 1000), .h 1, .h 5, .h 6], .map (v1.map sent), .dead, .dead, .cells [.p 0 0, .u (.i .i64 802), .u (.i .i64 8), .u (.i .i64 16), .u (.fz (l.map segrow) none), .u (.fz [] (some 0)), .u (.i .u64 ((lastL A) : Int)), .u (.i .u64 ((lastL A) : Int))], .map (g'.map sent), .row 116 1 []]) ((entF 7 rfl (e' := [(10, .p 4 0), (11, .u (.fz ((outL A).map rrow) none)), (12, .u (.i .i64 0))]) mB rfl).trans (entL2 hc0 [some 0, some 1, none, none, some 4, some 8, some 9] rfl rfl mB mB)) ?_
      refine wps_ret ?_
      refine retL [some 0, some 1, some 2, some 3, some 4, some 5, some 6] mA mO rfl rfl ?_
      refine ⟨g', by rw [hAT, hl, hvp]; exact hg', ?_⟩
      simp only [go_sem, and_true, true_and, implies_true, reduceIte, Nat.reduceEqDiff, Nat.reduceAdd, Nat.reduceLT, List.cons_append, List.nil_append, hAT, hl, hvp]

/-- a store that was opened: its objects, behind a disk's -/
def opn (W : PgM) (sg : List Seg) (last : Nat) (v' g' : Sec) : List SObj := [.cells [.u (.i .i64 1000), .u (.i .i64 1000), .h 1, .h 11, .h 12], .map (v'.map sent), .dead, .dead, .cells [.p 0 0, .u (.i .i64 0), .u (.i .u64 0), .u (.i .i64 1)], .map [], .map ((enc W).map sent), .map [], .cells [.p 0 0, .p 4 0, .u (.i .i64 0), .u (.i .i64 200), .u (.i .u64 0), .h 5, .h 6, .h 7], .cells [.p 8 0], .cells [.p 0 0, .u (.i .i64 802), .u (.i .i64 8), .u (.i .i64 16), .u (.fz (sg.map segrow) none), .u (.fz [] (some 0)), .u (.i .u64 (last : Int)), .u (.i .u64 (last : Int))], .map (g'.map sent), .row 116 1 [], .cells [.p 9 0, .p 8 0, .p 10 0]]
inductive Runs : PgM → Nat → List (List Cel) → PgM → Nat → Prop
 | nil (W : PgM) (m : Nat) : Runs W m [] W m
 | cons {W : PgM} {m : Nat} {cs : List Cel} {W1 : PgM} {m1 : Nat} {css : List (List Cel)} {W' : PgM} {m' : Nat} (h0 : Cnt W m) (h1 : m ≤ 64) (h2 : cs.length ≤ 9) (h3 : ∀ c ∈ cs, c.1.length ≤ 240 ∧ c.1.length + c.2.length ≤ 480) (h4 : Puts W m cs W1 m1) (h5 : Runs W1 m1 css W' m') : Runs W m (cs :: css) W' m'

theorem tag_ok (w : Sec) (vm gm : List (PV × PV)) (pr : List (List PV)) : CallT Tryz.prog 47 [.p 0 0] (pgr w vm gm pr) fun r σ => r = .u (.i .u64 0) ∧ σ = pgr w vm gm pr := by
 unfold pgr dskC
 refine cof 7 [.tmp 2] Tryz.func47 Tryz.ntmps47 fun c hnt hc0 => ?_
 refine sq fun _ k1 => rgn 0 ?_
 repeat refine ⟨sd, ?_⟩
 refine k1 (sq fun _ k2 => rgn 0 ?_)
 repeat refine ⟨sd, ?_⟩
 refine k2 (wps_ret ?_)
 refine retL [some 0, some 1, some 2, some 3, some 4, some 5, some 6, some 7, some 8] rfl ⟨trivial, trivial⟩ rfl rfl ?_
 exact mT

theorem sopen_ok (v g : Sec) (F : Nat → Option (Nat × List (List UInt8))) (tk : List Fnd) (css : List (List Cel)) (W' : PgM) (m' : Nat) (h0 : sget 0 v = none) (h1 : sget 1 v = none) (hv : SecOK v) (hF : ∀ i, i < 8 → SegIs v i (F i)) (hA : AllOK (foundL F 8)) (htk : (foundL F 8).take (takenN (foundL F 8)) = tk)
  (hcs : (outL tk).map Prod.snd = css.map showS) (hR : Runs W0 1 css W' m') (hcl : css.length ≤ 1000) : CallT Tryz.prog 21 [.p 0 0] (dsk v g [])
  fun r σ => ∃ g' : Sec, g'.Perm (freeU (tk.map segOf) 8 (v, [])).1 ∧ r = .tup [.p 13 0, .u (.i .i64 0)] ∧ σ = opn W' (tk.map segOf) (lastL tk) (freeU (tk.map segOf) 8 (v, [])).1 g' := by
 have hpo := pageropen_ok v g [] h0 h1
 have hto := topen_ok (v.map sent) (g.map sent) ([] : List (List PV))
 have htg := tag_ok (enc W0) (v.map sent) (g.map sent) ([] : List (List PV))
 have hwo := walopen_ok v g F hv hF hA
 rw [htk] at hwo
 obtain ⟨v', hv'⟩ : ∃ v', (freeU (tk.map segOf) 8 (v, [])).1 = v' := ⟨_, rfl⟩
 obtain ⟨sg, hsg⟩ : ∃ sg, tk.map segOf = sg := ⟨_, rfl⟩
 obtain ⟨last, hla⟩ : ∃ last, lastL tk = last := ⟨_, rfl⟩
 obtain ⟨RL, hRL⟩ : ∃ RL, outL tk = RL := ⟨_, rfl⟩
 rw [hsg] at hv' hwo ⊢
 rw [hv'] at hwo ⊢
 rw [hla, hRL] at hwo
 rw [hla]
 rw [hRL] at hcs
 have hlen : RL.length = css.length := by simpa using congrArg List.length hcs
 have hbody : ∀ i, i < RL.length → (RL.getD i (0, [])).2 = showS (css.getD i []) := fun i hi => by
  have h := congrArg (fun l => l[i]?) hcs
  simp only [List.getElem?_map] at h
  rw [List.getElem?_eq_getElem hi, List.getElem?_eq_getElem (by omega)] at h
  rw [List.getD_eq_getElem?_getD, List.getElem?_eq_getElem hi, List.getD_eq_getElem?_getD, List.getElem?_eq_getElem (by omega)]
  simpa using h
 have hmay := fun (W : PgM) (m : Nat) (cs : List Cel) (g' : Sec) a b c d => smay_ok W (.fz (sg.map segrow) none) (.fz [] (some 0)) last last v' g' [] m cs none a b c d
 have hdo := fun (W W1 : PgM) (m m1 : Nat) (cs : List Cel) (g' : Sec) h a => sdo_ok W W1 m m1 cs none (.fz (sg.map segrow) none) (.fz [] (some 0)) last last v' g' [] h a
 unfold opn
 unfold sto at hmay hdo
 unfold dsk dskC metaC pgr at *
 simp only [List.map_nil, show enc [] = [] from rfl] at *
 simp only [List.cons_append, List.nil_append] at hpo
 unfold dskC at *
 refine cof 71 [.tmp 2, .tmp 3] Tryz.func21 Tryz.ntmps21 fun c hnt hc0 => ?_
 replace hc0 : c.β0.length = 4 := hc0
 refine sq fun _ k1 => rgn 0 ?_
 repeat refine ⟨sd, ?_⟩
 refine k1 (sq fun _ k2 => rgn 0 ?_)
 repeat refine ⟨sd, ?_⟩
 refine callT_atN [0, 1, 2, 3] [_, _, _, _] (τ := [_, _, _, _]) hpo rfl rfl ⟨rfl, rfl, rfl, rfl, trivial⟩ mB mB rfl ?_
 refine fxl ?_
 refine evl ?_
 repeat refine ⟨sd, ?_⟩
 refine k2 (sq fun _ k3 => sq fun _ k4 => rgn 0 ?_)
 repeat refine ⟨sd, ?_⟩
 refine k4 (cd rfl (fun h1 => ?_) (fun h1 => ?_))
 ·exact absurd h1 (by simp)
 ·refine wps_skip (k3 (sq fun _ k5 => rgn 0 ?_))
  repeat refine ⟨sd, ?_⟩
  refine callT_atN [8, 5, 6, 7, 4, 0, 1, 2, 3] [_, _, _, _, _, _, _, _, _] hto rfl rfl ⟨rfl, rfl, rfl, rfl, rfl, rfl, rfl, rfl, rfl, trivial⟩ mB mB rfl ?_
  refine fxl ?_
  refine evl ?_
  repeat refine ⟨sd, ?_⟩
  refine k5 (sq fun _ k6 => sq fun _ k7 => ?_)
  refine wps_keep [0, 4, 5, 6] mK ?_
  refine rgn 0 ?_
  repeat refine ⟨sd, ?_⟩
  refine k7 (cd rfl (fun h2 => ?_) (fun h2 => ?_))
  ·exact absurd h2 (by simp)
  ·refine wps_skip (k6 (sq fun _ k8 => rgn 0 ?_))
   repeat refine ⟨sd, ?_⟩
   refine callT_at [8, 5, 6, 7, 4, 0, 1, 2, 3] [_, _, _, _, _, _, _, _, _] htg rfl rfl ⟨rfl, rfl, rfl, rfl, rfl, rfl, rfl, rfl, rfl, trivial⟩ mB mB rfl mR mR ?_
   refine evl ?_
   repeat refine ⟨sd, ?_⟩
   refine callT_atNE [0, 1, 2, 3] [_, _, _, _] hwo rfl rfl ⟨rfl, rfl, rfl, rfl, trivial⟩ mB mB (fun _ => rfl) (fun g' hg' => ?_)
   refine fxl ?_
   refine evl ?_
   repeat refine ⟨sd, ?_⟩
   refine k8 (sq fun _ k9 => sq fun _ k10 => ?_)
   refine wps_keep [4, 5, 6, 7, 8] mK ?_
   refine rgn 0 ?_
   repeat refine ⟨sd, ?_⟩
   refine k10 (cd rfl (fun h3 => ?_) (fun h3 => ?_))
   ·exact absurd h3 (by simp)
   ·refine wps_skip (k9 (sq fun _ k11 => rgn 1 ?_))
    repeat refine ⟨sd, ?_⟩
    refine k11 (sq fun _ k12 => sq fun _ k13 => rgn 0 ?_)
    repeat refine ⟨sd, ?_⟩
    refine k13 (bk fun _ k14 => ?_)
    refine wps_loop (fun k e σ => ∃ (i : Nat) (W : PgM) (m : Nat), k = css.length - i ∧ i ≤ css.length ∧ Runs W m (css.drop i) W' m' ∧ e = [(9, .p 13 0), (46, .u (.fz (RL.map rrow) none)), (47, .u (.i .i64 (css.length : Int))), (48, .u (.i .i64 (i : Int)))] ∧ σ = [.cells [.u (.i .i64 1000), .u (.i .i64 1000), .h 1, .h 11, .h 12], .map (v'.map sent), .dead, .dead, .cells [.p 0 0, .u (.i .i64 0), .u (.i .u64 0), .u (.i .i64 1)], .map [], .map ((enc W).map sent), .map [], .cells [.p 0 0, .p 4 0, .u (.i .i64 0), .u (.i .i64 200), .u (.i .u64 0), .h 5, .h 6, .h 7], .cells [.p 8 0], .cells [.p 0 0, .u (.i .i64 802), .u (.i .i64 8), .u (.i .i64 16), .u (.fz (sg.map segrow) none), .u (.fz [] (some 0)), .u (.i .u64 (last : Int)), .u (.i .u64 (last : Int))], .map (g'.map sent), .row 116 1 [], .cells [.p 9 0, .p 8 0, .p 10 0]])
     (e0 := [(9, .p 13 0), (46, .u (.fz (RL.map rrow) none)), (47, .u (.i .i64 (css.length : Int))), (48, .u (.i .i64 0))]) (σ0 := [.cells [.u (.i .i64 1000), .u (.i .i64 1000), .h 1, .h 11, .h 12], .map (v'.map sent), .dead, .dead, .cells [.p 0 0, .u (.i .i64 0), .u (.i .u64 0), .u (.i .i64 1)], .map [], .map ((enc W0).map sent), .map [], .cells [.p 0 0, .p 4 0, .u (.i .i64 0), .u (.i .i64 200), .u (.i .u64 0), .h 5, .h 6, .h 7], .cells [.p 8 0], .cells [.p 0 0, .u (.i .i64 802), .u (.i .i64 8), .u (.i .i64 16), .u (.fz (sg.map segrow) none), .u (.fz [] (some 0)), .u (.i .u64 (last : Int)), .u (.i .u64 (last : Int))], .map (g'.map sent), .row 116 1 [], .cells [.p 9 0, .p 8 0, .p 10 0]]) (entL hc0 [some 0, some 1, some 2, some 3, some 4, some 5, some 6, some 7, some 8, some 9, some 10, some 11, some 12, some 13] rfl rfl (by rw [← hlen]; simp only [go_sem, reduceIte, Nat.reduceEqDiff, Nat.reduceAdd, Nat.reduceLT]) mB) ⟨0, W0, 1, rfl, Nat.zero_le _, hR, rfl, rfl⟩ fun KL k e1 σ1 hI hKL => ?_
    obtain ⟨i, W, m, rfl, hi, hP, rfl, rfl⟩ := hI
    refine sq fun _ k15 => rgn 0 ?_
    repeat refine ⟨sd, ?_⟩
    refine k15 (sq fun _ k16 => cd rfl (fun h4 => ?_) (fun h4 => ?_))
    ·have hlt : i < css.length := by simpa using h4
     have hel := rrow_at (l := RL) (i := i) (by omega)
     have hbi := hbody i (by omega)
     rw [hbi] at hel
     obtain ⟨cs, hcd⟩ : ∃ cs, css.getD i [] = cs := ⟨_, rfl⟩
     rw [hcd] at hel
     have hdrop : css.drop i = cs :: css.drop (i + 1) := by
      rw [← hcd, List.drop_eq_getElem_cons hlt, List.getD_eq_getElem?_getD, List.getElem?_eq_getElem hlt]; rfl
     rw [hdrop] at hP
     cases hP with | @cons _ _ _ W1 m1 _ _ _ g0 g1 g2 g3 g4 g5 =>
     have hpa := sparse_ok cs (by omega) (fun c hc => (g3 c hc).2)
     have hmy := hmay W m cs g' g0 g1 g2 g3
     have hd1 := hdo W W1 m m1 cs g' g4 (by omega)
     have hw1 := wi1 i
     refine wps_skip (k16 (sq fun _ k17 => bk fun _ k18 => sq fun _ k19 => rg 1 ?_))
     refine evx hel ?_
     repeat refine ⟨sd, ?_⟩
     refine k19 (sq fun _ k20 => rgn 0 ?_)
     repeat refine ⟨sd, ?_⟩
     refine callT_at [] [] hpa rfl rfl trivial mB mB rfl mR mR ?_
     refine evl ?_
     repeat refine ⟨sd, ?_⟩
     refine k20 (sq fun _ k21 => sq fun _ k22 => rgn 0 ?_)
     repeat refine ⟨sd, ?_⟩
     refine callT_at [13, 9, 8, 5, 6, 7, 4, 0, 1, 11, 12, 10] [_, _, _, _, _, _, _, _, _, _, _, _] hmy rfl rfl ⟨rfl, rfl, rfl, rfl, rfl, rfl, rfl, rfl, rfl, rfl, rfl, rfl, trivial⟩ mB mB rfl mR mR ?_
     refine evl ?_
     repeat refine ⟨sd, ?_⟩
     refine k22 (cd rfl (fun h5 => ?_) (fun h5 => ?_))
     ·exact absurd h5 (by simp)
     ·refine wps_skip (k21 ?_)
      refine wps_keep [9, 12, 46, 47, 48] mK ?_
      refine rgn 0 ?_
      repeat refine ⟨sd, ?_⟩
      refine callT_at [13, 9, 8, 5, 6, 7, 4, 0, 1, 11, 12, 10] [_, _, _, _, _, _, _, _, _, _, _, _] hd1 rfl rfl ⟨rfl, rfl, rfl, rfl, rfl, rfl, rfl, rfl, rfl, rfl, rfl, rfl, trivial⟩ mB mB rfl mR mR ?_
      refine evl ?_
      repeat refine ⟨sd, ?_⟩
      refine k18 (k17 (rg 0 ?_))
      refine evx hw1 ?_
      repeat refine ⟨sd, ?_⟩
      exact hKL _ _ (css.length - (i + 1)) _ [.cells [.u (.i .i64 1000), .u (.i .i64 1000), .h 1, .h 11, .h 12], .map (v'.map sent), .dead, .dead, .cells [.p 0 0, .u (.i .i64 0), .u (.i .u64 0), .u (.i .i64 1)], .map [], .map ((enc W1).map sent), .map [], .cells [.p 0 0, .p 4 0, .u (.i .i64 0), .u (.i .i64 200), .u (.i .u64 0), .h 5, .h 6, .h 7], .cells [.p 8 0], .cells [.p 0 0, .u (.i .i64 802), .u (.i .i64 8), .u (.i .i64 16), .u (.fz (sg.map segrow) none), .u (.fz [] (some 0)), .u (.i .u64 (last : Int)), .u (.i .u64 (last : Int))], .map (g'.map sent), .row 116 1 [], .cells [.p 9 0, .p 8 0, .p 10 0]] (entL hc0 [some 0, some 1, some 2, some 3, some 4, some 5, some 6, some 7, some 8, some 9, some 10, some 11, some 12, some 13] rfl rfl mB mB) ⟨i + 1, W1, m1, rfl, by omega, g5, rfl, rfl⟩ (by omega)
    ·have hil : i = css.length := by simp at h4; omega
     subst hil
     rw [List.drop_length] at hP
     cases hP
     refine wps_exit ?_
     simp only [reduceIte, Nat.reduceEqDiff]
     refine k14 (k12 (sq fun _ k23 => rgn 0 ?_))
     repeat refine ⟨sd, ?_⟩
     refine k23 (wps_ret ?_)
     refine retL [some 0, some 1, some 2, some 3, some 4, some 5, some 6, some 7, some 8, some 9, some 10, some 11, some 12, some 13] mA mO rfl rfl ?_
     refine ⟨g', hg', ?_⟩
     exact mT
end Go.Proofs.YtefipnajpabfgaaGreatDoor
