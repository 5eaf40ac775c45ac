/- Part 1 of the proof: what functions of the program do, and plain facts on what they compute. -/
import Derived.Test.YtefipnajpabfgaaGreatDoorL7
import Derived.Test.YtefipnajpabfgaaGreatDoorTy
import Derived.Test.YtefipnajpabfgaaGreatDoorL6
set_option linter.all false
set_option maxRecDepth 40000
set_option maxHeartbeats 16000000
set_option linter.unusedSimpArgs false
set_option linter.unusedVariables false
namespace Go.Proofs.YtefipnajpabfgaaGreatDoor
open Go.Nm

@[go_sem] theorem nl0 : ((0 : Nat) : Int) = 0 := rfl
@[go_sem] theorem nl1 : ((1 : Nat) : Int) = 1 := rfl
@[go_sem] theorem nl2 : ((2 : Nat) : Int) = 2 := rfl
@[go_sem] theorem nl3 : ((3 : Nat) : Int) = 3 := rfl
@[go_sem] theorem nl4 : ((4 : Nat) : Int) = 4 := rfl
@[go_sem] theorem nl5 : ((5 : Nat) : Int) = 5 := rfl
@[go_sem] theorem nl6 : ((6 : Nat) : Int) = 6 := rfl
@[go_sem] theorem nl7 : ((7 : Nat) : Int) = 7 := rfl
@[go_sem] theorem nl8 : ((8 : Nat) : Int) = 8 := rfl
@[go_sem] theorem nl9 : ((9 : Nat) : Int) = 9 := rfl
@[go_sem] theorem nl10 : ((10 : Nat) : Int) = 10 := rfl
@[go_sem] theorem nl11 : ((11 : Nat) : Int) = 11 := rfl
@[go_sem] theorem nl12 : ((12 : Nat) : Int) = 12 := rfl
@[go_sem] theorem nl13 : ((13 : Nat) : Int) = 13 := rfl
@[go_sem] theorem nl14 : ((14 : Nat) : Int) = 14 := rfl
@[go_sem] theorem nl15 : ((15 : Nat) : Int) = 15 := rfl
@[go_sem] theorem nl16 : ((16 : Nat) : Int) = 16 := rfl
@[go_sem] theorem nl17 : ((17 : Nat) : Int) = 17 := rfl
@[go_sem] theorem nl18 : ((18 : Nat) : Int) = 18 := rfl
@[go_sem] theorem nl19 : ((19 : Nat) : Int) = 19 := rfl
@[go_sem] theorem nl20 : ((20 : Nat) : Int) = 20 := rfl
@[go_sem] theorem wl0 : IntKind.i64.wrap 0 = 0 := by decide
@[go_sem] theorem wl1 : IntKind.i64.wrap 1 = 1 := by decide
@[go_sem] theorem wl2 : IntKind.i64.wrap 2 = 2 := by decide
@[go_sem] theorem wl3 : IntKind.i64.wrap 3 = 3 := by decide
@[go_sem] theorem wl4 : IntKind.i64.wrap 4 = 4 := by decide
@[go_sem] theorem wl5 : IntKind.i64.wrap 5 = 5 := by decide
@[go_sem] theorem wl6 : IntKind.i64.wrap 6 = 6 := by decide
@[go_sem] theorem wl7 : IntKind.i64.wrap 7 = 7 := by decide
@[go_sem] theorem wl8 : IntKind.i64.wrap 8 = 8 := by decide
@[go_sem] theorem wl9 : IntKind.i64.wrap 9 = 9 := by decide
@[go_sem] theorem wl10 : IntKind.i64.wrap 10 = 10 := by decide
@[go_sem] theorem wl11 : IntKind.i64.wrap 11 = 11 := by decide
@[go_sem] theorem wl12 : IntKind.i64.wrap 12 = 12 := by decide
@[go_sem] theorem wl13 : IntKind.i64.wrap 13 = 13 := by decide
@[go_sem] theorem wl14 : IntKind.i64.wrap 14 = 14 := by decide
@[go_sem] theorem wl15 : IntKind.i64.wrap 15 = 15 := by decide
@[go_sem] theorem wl16 : IntKind.i64.wrap 16 = 16 := by decide
/-! ### numbers as bytes -/
def vput (n : Nat) : List UInt8 := if n < 128 then [UInt8.ofNat n] else UInt8.ofNat (n % 128 + 128) :: vput (n / 128)
termination_by n
decreasing_by omega

theorem or128 : ∀ w : Fin 256, bits .or .u8 (w.val : Int) 128 = (((UInt8.ofNat (w.val % 128 + 128)).toNat : Nat) : Int) := by decide +kernel
theorem wrap8 (n : Nat) : IntKind.u8.wrap (n : Int) = (((UInt8.ofNat n).toNat : Nat) : Int) := by
 have : (UInt8.ofNat n).toNat = n % 256 := by simp
 rw [this]
 simp [IntKind.wrap, IntKind.bits, IntKind.signed]
theorem wrap8or (n : Nat) : bits .or .u8 (((UInt8.ofNat n).toNat : Nat) : Int) 128 = (((UInt8.ofNat (n % 128 + 128)).toNat : Nat) : Int) := by
 have h := or128 ⟨n % 256, Nat.mod_lt _ (by decide)⟩
 have h1 : (UInt8.ofNat n).toNat = n % 256 := by simp
 simp only at h
 rw [h1, h]
 congr 3
 omega
theorem shr7 (n : Nat) : (n : Int).fdiv (2 ^ min 7 64) = ((n / 128 : Nat) : Int) := by
 rw [show min 7 64 = 7 from rfl, Int.fdiv_eq_ediv_of_nonneg _ (by decide)]
 rfl
theorem vput_lt {n : Nat} (h : n < 128) : vput n = [UInt8.ofNat n] := by rw [vput, if_pos h]
theorem vput_ge {n : Nat} (h : ¬ n < 128) : vput n = UInt8.ofNat (n % 128 + 128) :: vput (n / 128) := by rw [vput, if_neg h]

theorem putvar_fz (l : List UInt8) (q : Option Nat) (v : Nat) (hl : l.length ≤ 1000000) (hv : v < 18446744073709551616) : CallT Tryz.prog 92 [.u (.fz (bs l) q), .u (.i .u64 (v : Int))] [] fun r σ => r = .h 0 ∧ σ = [] ++ [.row 5 1 (bs (l ++ vput v))] := by
 refine cof 24 [.tmp 4] Tryz.func92 Tryz.ntmps92 fun c hnt hc0 => ?_
 refine sq fun _ k1 => rgn 0 ?_
 repeat refine ⟨sd, ?_⟩
 refine k1 (sq fun _ k2 => rgn 1 ?_)
 repeat refine ⟨sd, ?_⟩
 refine k2 (sq fun _ k3 => bk fun _ k4 => ?_)
 refine wps_loop (fun k e σ => ∃ (n : Nat) (d : List UInt8), k = n ∧ n ≤ v ∧ d.length ≤ 20 ∧ (n < 2 ^ (70 - 7 * d.length)) ∧ d ++ vput n = vput v ∧ e = [(1, .u (.i .u64 (n : Int))), (5, .h 0)] ∧ σ = [.row 5 1 (bs (l ++ d))])
  (e0 := [(1, .u (.i .u64 (v : Int))), (5, .h 0)]) (σ0 := [.row 5 1 (bs l)]) (entL hc0 [some 0] rfl rfl mB mB) ⟨v, [], rfl, Nat.le_refl _, by simp, by simp; omega, rfl, rfl, by simp⟩ fun KL k e1 σ1 hI hKL => ?_
 obtain ⟨n, d, rfl, hnv, hdl, hnp, hd, rfl, rfl⟩ := hI
 refine sq fun _ k5 => sq fun _ k6 => rgn 0 ?_
 repeat refine ⟨sd, ?_⟩
 refine k6 (cd rfl (fun h1 => ?_) (fun h1 => ?_))
 ·simp at h1
  have hn128 : ¬ k < 128 := by omega
  rw [vput_ge hn128] at hd
  have hd9 : d.length ≤ 8 := by
   rcases Nat.lt_or_ge d.length 9 with h | h
   ·omega
   ·have : 2 ^ (70 - 7 * d.length) ≤ 2 ^ 7 := Nat.pow_le_pow_right (by decide) (by omega)
    omega
  refine wps_skip (k5 (sq fun _ k7 => bk fun _ k8 => rg 1 ?_))
  simp only [↓kOps_app, ↓evOps_nil, ↓evOps_cons, go_sem, Int.reduceAdd, Int.reduceBEq, Int.reduceEq, Int.reduceLE, Int.reduceLT, Int.reduceNe, Int.reduceSub, Int.reduceToNat, Nat.reduceAdd, Nat.reduceBEq, Nat.reduceEqDiff, Nat.reduceLT, Nat.reduceLeDiff, Nat.reduceMul, Nat.reduceSub, reduceCtorEq, reduceIte, wrap8, wrap8or, bs_one, bs_app, List.append_assoc]
  repeat refine ⟨sd, ?_⟩
  refine k8 (k7 (rg 0 ?_))
  refine evx @shr7 ?_
  repeat refine ⟨sd, ?_⟩
  exact hKL _ _ (k / 128) _ _ (entL hc0 [some 1] rfl rfl mB mB) ⟨k / 128, d ++ [UInt8.ofNat (k % 128 + 128)], rfl, by omega, by simp; omega, by
   have h7 : 70 - 7 * d.length = (70 - 7 * (d ++ [UInt8.ofNat (k % 128 + 128)]).length) + 7 := by simp; omega
   rw [h7, Nat.pow_add] at hnp
   omega, by rw [← hd]; simp, rfl, rfl⟩ (by omega)
 ·simp at h1
  rw [vput_lt (by omega)] at hd
  refine wps_exit ?_
  simp only [reduceIte, Nat.reduceEqDiff]
  refine k4 (k3 (sq fun _ k9 => rg 1 ?_))
  simp only [↓kOps_app, ↓evOps_nil, ↓evOps_cons, go_sem, Int.reduceAdd, Int.reduceBEq, Int.reduceEq, Int.reduceLE, Int.reduceLT, Int.reduceNe, Int.reduceSub, Int.reduceToNat, Nat.reduceAdd, Nat.reduceBEq, Nat.reduceEqDiff, Nat.reduceLT, Nat.reduceLeDiff, Nat.reduceMul, Nat.reduceSub, reduceCtorEq, reduceIte, wrap8, bs_one, bs_app, List.append_assoc]
  repeat refine ⟨sd, ?_⟩
  refine k9 (wps_ret ?_)
  refine retL [some 1] rfl ⟨trivial, trivial⟩ rfl rfl ?_
  rw [← hd]
  simp only [go_sem, and_true, true_and, implies_true, reduceIte, Nat.reduceEqDiff, Nat.reduceAdd, Nat.reduceLT, List.nil_append]

theorem vput_pos (n : Nat) : 1 ≤ (vput n).length := by
 rw [vput]; split <;> simp
theorem vput_le : ∀ (n m : Nat), n < 2 ^ (7 * m + 7) → (vput n).length ≤ m + 1
 | n, 0, h => by rw [vput_lt (by simpa using h)]; simp
 | n, m + 1, h => by
  by_cases hn : n < 128
  ·rw [vput_lt hn]; simp
  ·rw [vput_ge hn]
   have : n / 128 < 2 ^ (7 * m + 7) := by
    rw [show 7 * (m + 1) + 7 = (7 * m + 7) + 7 by omega, Nat.pow_add] at h
    omega
   have := vput_le (n / 128) m this
   simp; omega
theorem vput_10 (n : Nat) (h : n < 18446744073709551616) : (vput n).length ≤ 10 := vput_le n 9 (by omega)

theorem size_ok (v : Nat) (hv : v < 18446744073709551616) : CallT Tryz.prog 161 [.u (.i .u64 (v : Int))] [] fun r σ => r = .u (.i .i64 ((vput v).length : Int)) ∧ σ = [] := by
 have h10 := vput_10 v hv
 refine cof 13 [.tmp 2] Tryz.func161 Tryz.ntmps161 fun c hnt hc0 => ?_
 refine sq fun _ k1 => rgn 0 ?_
 repeat refine ⟨sd, ?_⟩
 refine k1 (sq fun _ k2 => rgn 0 ?_)
 repeat refine ⟨sd, ?_⟩
 refine k2 (sq fun _ k3 => sq fun _ k4 => rg 0 ?_)
 refine evx @shr7 ?_
 repeat refine ⟨sd, ?_⟩
 refine k4 (bk fun _ k5 => ?_)
 refine wps_loop (fun k e σ => ∃ (n m : Nat), k = n ∧ (m : Int) + (if n = 0 then 0 else ((vput n).length : Int)) = (vput v).length ∧ e = [(0, .u (.i .u64 (n : Int))), (3, .u (.i .i64 (m : Int)))] ∧ σ = [])
  (e0 := [(0, .u (.i .u64 ((v / 128 : Nat) : Int))), (3, .u (.i .i64 1))]) (σ0 := []) (entL hc0 [] rfl rfl mB mB) ⟨v / 128, 1, rfl, by
  by_cases h : v < 128
  ·rw [if_pos (by omega), vput_lt h]; simp
  ·rw [if_neg (by omega), vput_ge h]; simp; omega, rfl, rfl⟩ fun KL k e1 σ1 hI hKL => ?_
 obtain ⟨n, m, rfl, hm, rfl, rfl⟩ := hI
 refine sq fun _ k6 => sq fun _ k7 => rgn 0 ?_
 repeat refine ⟨sd, ?_⟩
 refine k7 (cd rfl (fun h1 => ?_) (fun h1 => ?_))
 ·simp at h1
  rw [if_neg (by omega)] at hm
  have hp := vput_pos k
  have hw := wi1 m
  refine wps_skip (k6 (sq fun _ k8 => bk fun _ k9 => rg 0 ?_))
  refine evx hw ?_
  repeat refine ⟨sd, ?_⟩
  refine k9 (k8 (rg 0 ?_))
  refine evx @shr7 ?_
  repeat refine ⟨sd, ?_⟩
  exact hKL _ _ (k / 128) _ _ (entL hc0 [] rfl rfl mB mB) ⟨k / 128, m + 1, rfl, by
   by_cases h : k < 128
   ·rw [if_pos (by omega)]; rw [vput_lt h] at hm; simp at hm ⊢; omega
   ·rw [if_neg (by omega)]; rw [vput_ge h] at hm; simp at hm ⊢; omega, rfl, rfl⟩ (by omega)
 ·have hk : k = 0 := by simp at h1; omega
  rw [if_pos hk] at hm
  have hmv : m = (vput v).length := by omega
  refine wps_exit ?_
  simp only [reduceIte, Nat.reduceEqDiff]
  refine k5 (k3 (sq fun _ k10 => rgn 0 ?_))
  repeat refine ⟨sd, ?_⟩
  refine k10 (wps_ret ?_)
  refine retL [] rfl ⟨trivial, trivial⟩ rfl rfl ?_
  simp only [go_sem, and_true, true_and, implies_true, reduceIte, Nat.reduceEqDiff, Nat.reduceAdd, Nat.reduceLT, hmv]

/-! ### numbers of so many bytes -/
def be4 (v : Nat) : List UInt8 := [UInt8.ofNat (v / 16777216), UInt8.ofNat (v / 65536), UInt8.ofNat (v / 256), UInt8.ofNat v]
def be8 (v : Nat) : List UInt8 := [UInt8.ofNat (v / 72057594037927936), UInt8.ofNat (v / 281474976710656), UInt8.ofNat (v / 1099511627776), UInt8.ofNat (v / 4294967296), UInt8.ofNat (v / 16777216), UInt8.ofNat (v / 65536), UInt8.ofNat (v / 256), UInt8.ofNat v]

theorem shrN (n k : Nat) : (n : Int).fdiv (2 ^ k) = ((n / 2 ^ k : Nat) : Int) := by
 rw [Int.fdiv_eq_ediv_of_nonneg _ (by exact Int.le_of_lt (Int.pow_pos (by decide)))]
 simp

theorem putb_ok (l : List UInt8) (v s : Nat) (hs : s ≤ 64) (hl : l.length ≤ 1000000) : CallT Tryz.prog 130 [.u (.i .u64 (s : Int)), .p 0 0, .p 1 0] [.cells [.h 2], .cells [.u (.i .u64 (v : Int))], .row 5 1 (bs l)]
  fun r σ => r = .tup [] ∧ σ = [.cells [.h 3], .cells [.u (.i .u64 (v : Int))], .dead] ++ [.row 5 1 (bs (l ++ [UInt8.ofNat (v / 2 ^ s)]))] := by
 have hm : min s 64 = s := by omega
 refine cof 11 [] Tryz.func130 Tryz.ntmps130 fun c hnt hc0 => ?_
 refine rg 1 ?_
 refine evx5 hm @shrN @wrap8 @bs_one @bs_app ?_
 repeat refine ⟨sd, ?_⟩
 refine retL [some 0, some 1, some 2, some 3] rfl trivial rfl rfl ?_
 exact mU

theorem nput4_ok (l : List UInt8) (q : Option Nat) (v : Nat) (hl : l.length ≤ 900000) (hv : v < 4294967296) : CallT Tryz.prog 94 [.u (.fz (bs l) q), .u (.i .u64 (v : Int)), .u (.i .i64 4)] []
  fun r σ => r = .tup [.h 0, .u (.i .i64 0)] ∧ σ = [] ++ [.row 5 1 (bs (l ++ be4 v))] := by
 have hp1 := putb_ok l v 24 (by decide) (by omega)
 have hp2 := putb_ok (l ++ [UInt8.ofNat (v / 2 ^ 24)]) v 16 (by decide) (by simp; omega)
 have hp3 := putb_ok (l ++ [UInt8.ofNat (v / 2 ^ 24)] ++ [UInt8.ofNat (v / 2 ^ 16)]) v 8 (by decide) (by simp; omega)
 have hp4 := putb_ok (l ++ [UInt8.ofNat (v / 2 ^ 24)] ++ [UInt8.ofNat (v / 2 ^ 16)] ++ [UInt8.ofNat (v / 2 ^ 8)]) v 0 (by decide) (by simp; omega)
 have e24 : ((24 : Nat) : Int) = 24 := rfl
 have e16 : ((16 : Nat) : Int) = 16 := rfl
 have e8 : ((8 : Nat) : Int) = 8 := rfl
 have e0 : ((0 : Nat) : Int) = 0 := rfl
 rw [e24] at hp1
 rw [e16] at hp2
 rw [e8] at hp3
 rw [e0] at hp4
 have hz : v / 2 ^ 32 = 0 := Nat.div_eq_of_lt (by simpa using hv)
 have hm0 : min 32 64 = 32 := rfl
 refine cof 47 [.tmp 6, .tmp 7] Tryz.func94 Tryz.ntmps94 fun c hnt hc0 => ?_
 refine sq fun _ k1 => rgn 1 ?_
 repeat refine ⟨sd, ?_⟩
 refine k1 (sq fun _ k2 => sq fun _ k3 => dr 0 [0, 1, 3, 7, 15, 31, 63, 127, 255, 511, 1023, 1023, 3071, 7167, 16383, 32767, 65535, 131071] mixed ?_)
 refine evx3 hm0 @shrN hz ?_
 repeat refine ⟨sd, ?_⟩
 refine k3 (cd rfl (fun h1 => ?_) (fun h1 => ?_))
 ·exact absurd h1 (by simp)
 ·refine wps_skip (k2 (sq fun _ k4 => rgn 2 ?_))
  repeat refine ⟨sd, ?_⟩
  refine k4 (sq fun _ k5 => rgn 0 ?_)
  repeat refine ⟨sd, ?_⟩
  refine k5 (sq fun _ k6 => sq fun _ k7 => rgn 0 ?_)
  repeat refine ⟨sd, ?_⟩
  refine k7 (bk fun _ k8 => wps_loopU ?_)
  refine wpl_round fun K9 hK9 => sq fun _ k10 => rgn 0 ?_
  repeat refine ⟨sd, ?_⟩
  refine k10 (sq fun _ k11 => cd rfl (fun h2 => ?_) (fun h2 => ?_))
  ·refine wps_skip (k11 (sq fun _ k12 => bk fun _ k13 => sq fun _ k14 => rgn 0 ?_))
   repeat refine ⟨sd, ?_⟩
   refine k14 (rgn 0 ?_)
   repeat refine ⟨sd, ?_⟩
   refine callT_atN [2, 0, 1] [_, _, _] hp1 rfl rfl ⟨rfl, rfl, rfl, trivial⟩ mB mB rfl ?_
   refine fxl ?_
   refine evl ?_
   repeat refine ⟨sd, ?_⟩
   refine k13 (k12 (rgn 0 ?_))
   repeat refine ⟨sd, ?_⟩
   refine hK9 _ _ ?_
   refine wpl_round fun K15 hK15 => sq fun _ k16 => rgn 0 ?_
   repeat refine ⟨sd, ?_⟩
   refine k16 (sq fun _ k17 => cd rfl (fun h3 => ?_) (fun h3 => ?_))
   ·refine wps_skip (k17 (sq fun _ k18 => bk fun _ k19 => sq fun _ k20 => rgn 0 ?_))
    repeat refine ⟨sd, ?_⟩
    refine k20 (rgn 0 ?_)
    repeat refine ⟨sd, ?_⟩
    refine callT_atN [2, 0, 3] [_, _, _] hp2 rfl rfl ⟨rfl, rfl, rfl, trivial⟩ mB mB rfl ?_
    refine fxl ?_
    refine evl ?_
    repeat refine ⟨sd, ?_⟩
    refine k19 (k18 (rgn 0 ?_))
    repeat refine ⟨sd, ?_⟩
    refine hK15 _ _ ?_
    refine wpl_round fun K21 hK21 => sq fun _ k22 => rgn 0 ?_
    repeat refine ⟨sd, ?_⟩
    refine k22 (sq fun _ k23 => cd rfl (fun h4 => ?_) (fun h4 => ?_))
    ·refine wps_skip (k23 (sq fun _ k24 => bk fun _ k25 => sq fun _ k26 => rgn 0 ?_))
     repeat refine ⟨sd, ?_⟩
     refine k26 (rgn 0 ?_)
     repeat refine ⟨sd, ?_⟩
     refine callT_atN [2, 0, 4] [_, _, _] hp3 rfl rfl ⟨rfl, rfl, rfl, trivial⟩ mB mB rfl ?_
     refine fxl ?_
     refine evl ?_
     repeat refine ⟨sd, ?_⟩
     refine k25 (k24 (rgn 0 ?_))
     repeat refine ⟨sd, ?_⟩
     refine hK21 _ _ ?_
     refine wpl_round fun K27 hK27 => sq fun _ k28 => rgn 0 ?_
     repeat refine ⟨sd, ?_⟩
     refine k28 (sq fun _ k29 => cd rfl (fun h5 => ?_) (fun h5 => ?_))
     ·refine wps_skip (k29 (sq fun _ k30 => bk fun _ k31 => sq fun _ k32 => rgn 0 ?_))
      repeat refine ⟨sd, ?_⟩
      refine k32 (rgn 0 ?_)
      repeat refine ⟨sd, ?_⟩
      refine callT_atN [2, 0, 5] [_, _, _] hp4 rfl rfl ⟨rfl, rfl, rfl, trivial⟩ mB mB rfl ?_
      refine fxl ?_
      refine evl ?_
      repeat refine ⟨sd, ?_⟩
      refine k31 (k30 (rgn 0 ?_))
      repeat refine ⟨sd, ?_⟩
      refine hK27 _ _ ?_
      refine wpl_round fun K33 hK33 => sq fun _ k34 => rgn 0 ?_
      repeat refine ⟨sd, ?_⟩
      refine k34 (sq fun _ k35 => cd rfl (fun h6 => ?_) (fun h6 => ?_))
      ·exact absurd h6 (by simp)
      ·refine wps_exit ?_
       simp only [reduceIte, Nat.reduceEqDiff]
       refine k8 (k6 (sq fun _ k36 => rgn 0 ?_))
       repeat refine ⟨sd, ?_⟩
       refine k36 (wps_ret ?_)
       refine retL [some 6] mA mO rfl rfl ?_
       simp only [go_sem, and_true, true_and, implies_true, reduceIte, Nat.reduceEqDiff, Nat.reduceAdd, Nat.reduceLT, List.nil_append, be4, List.append_assoc, List.cons_append, Nat.reducePow, Nat.div_one]
     ·exact absurd h5 (by simp)
    ·exact absurd h4 (by simp)
   ·exact absurd h3 (by simp)
  ·exact absurd h2 (by simp)

theorem nput8_ok (l : List UInt8) (q : Option Nat) (v : Nat) (hl : l.length ≤ 900000) (hv : v < 18446744073709551616) : CallT Tryz.prog 94 [.u (.fz (bs l) q), .u (.i .u64 (v : Int)), .u (.i .i64 8)] []
  fun r σ => r = .tup [.h 0, .u (.i .i64 0)] ∧ σ = [] ++ [.row 5 1 (bs (l ++ be8 v))] := by
 have hp1 := putb_ok l v 56 (by decide) (by omega)
 have hp2 := putb_ok (l ++ [UInt8.ofNat (v / 2 ^ 56)]) v 48 (by decide) (by simp; omega)
 have hp3 := putb_ok (l ++ [UInt8.ofNat (v / 2 ^ 56)] ++ [UInt8.ofNat (v / 2 ^ 48)]) v 40 (by decide) (by simp; omega)
 have hp4 := putb_ok (l ++ [UInt8.ofNat (v / 2 ^ 56)] ++ [UInt8.ofNat (v / 2 ^ 48)] ++ [UInt8.ofNat (v / 2 ^ 40)]) v 32 (by decide) (by simp; omega)
 have hp5 := putb_ok (l ++ [UInt8.ofNat (v / 2 ^ 56)] ++ [UInt8.ofNat (v / 2 ^ 48)] ++ [UInt8.ofNat (v / 2 ^ 40)] ++ [UInt8.ofNat (v / 2 ^ 32)]) v 24 (by decide) (by simp; omega)
 have hp6 := putb_ok (l ++ [UInt8.ofNat (v / 2 ^ 56)] ++ [UInt8.ofNat (v / 2 ^ 48)] ++ [UInt8.ofNat (v / 2 ^ 40)] ++ [UInt8.ofNat (v / 2 ^ 32)] ++ [UInt8.ofNat (v / 2 ^ 24)]) v 16 (by decide) (by simp; omega)
 have hp7 := putb_ok (l ++ [UInt8.ofNat (v / 2 ^ 56)] ++ [UInt8.ofNat (v / 2 ^ 48)] ++ [UInt8.ofNat (v / 2 ^ 40)] ++ [UInt8.ofNat (v / 2 ^ 32)] ++ [UInt8.ofNat (v / 2 ^ 24)] ++ [UInt8.ofNat (v / 2 ^ 16)]) v 8 (by decide) (by simp; omega)
 have hp8 := putb_ok (l ++ [UInt8.ofNat (v / 2 ^ 56)] ++ [UInt8.ofNat (v / 2 ^ 48)] ++ [UInt8.ofNat (v / 2 ^ 40)] ++ [UInt8.ofNat (v / 2 ^ 32)] ++ [UInt8.ofNat (v / 2 ^ 24)] ++ [UInt8.ofNat (v / 2 ^ 16)] ++ [UInt8.ofNat (v / 2 ^ 8)]) v 0 (by decide) (by simp; omega)
 have e56 : ((56 : Nat) : Int) = 56 := rfl
 have e48 : ((48 : Nat) : Int) = 48 := rfl
 have e40 : ((40 : Nat) : Int) = 40 := rfl
 have e32 : ((32 : Nat) : Int) = 32 := rfl
 have e24 : ((24 : Nat) : Int) = 24 := rfl
 have e16 : ((16 : Nat) : Int) = 16 := rfl
 have e8 : ((8 : Nat) : Int) = 8 := rfl
 have e0 : ((0 : Nat) : Int) = 0 := rfl
 rw [e56] at hp1
 rw [e48] at hp2
 rw [e40] at hp3
 rw [e32] at hp4
 rw [e24] at hp5
 rw [e16] at hp6
 rw [e8] at hp7
 rw [e0] at hp8
 refine cof 47 [.tmp 6, .tmp 7] Tryz.func94 Tryz.ntmps94 fun c hnt hc0 => ?_
 refine sq fun _ k1 => rgn 1 ?_
 repeat refine ⟨sd, ?_⟩
 refine k1 (sq fun _ k2 => sq fun _ k3 => dr 0 [0, 1, 3, 7, 15, 31, 63, 127, 255, 511, 1023, 1023, 3071, 7167, 16383, 32767, 65535, 131071] mixed ?_)
 refine evl ?_
 repeat refine ⟨sd, ?_⟩
 refine k3 (cd rfl (fun h1 => ?_) (fun h1 => ?_))
 ·exact absurd h1 (by simp)
 ·refine wps_skip (k2 (sq fun _ k4 => rgn 2 ?_))
  repeat refine ⟨sd, ?_⟩
  refine k4 (sq fun _ k5 => rgn 0 ?_)
  repeat refine ⟨sd, ?_⟩
  refine k5 (sq fun _ k6 => sq fun _ k7 => rgn 0 ?_)
  repeat refine ⟨sd, ?_⟩
  refine k7 (bk fun _ k8 => wps_loopU ?_)
  refine wpl_round fun K9 hK9 => sq fun _ k10 => rgn 0 ?_
  repeat refine ⟨sd, ?_⟩
  refine k10 (sq fun _ k11 => cd rfl (fun h2 => ?_) (fun h2 => ?_))
  ·refine wps_skip (k11 (sq fun _ k12 => bk fun _ k13 => sq fun _ k14 => rgn 0 ?_))
   repeat refine ⟨sd, ?_⟩
   refine k14 (rgn 0 ?_)
   repeat refine ⟨sd, ?_⟩
   refine callT_atN [2, 0, 1] [_, _, _] hp1 rfl rfl ⟨rfl, rfl, rfl, trivial⟩ mB mB rfl ?_
   refine fxl ?_
   refine evl ?_
   repeat refine ⟨sd, ?_⟩
   refine k13 (k12 (rgn 0 ?_))
   repeat refine ⟨sd, ?_⟩
   refine hK9 _ _ ?_
   refine wpl_round fun K15 hK15 => sq fun _ k16 => rgn 0 ?_
   repeat refine ⟨sd, ?_⟩
   refine k16 (sq fun _ k17 => cd rfl (fun h3 => ?_) (fun h3 => ?_))
   ·refine wps_skip (k17 (sq fun _ k18 => bk fun _ k19 => sq fun _ k20 => rgn 0 ?_))
    repeat refine ⟨sd, ?_⟩
    refine k20 (rgn 0 ?_)
    repeat refine ⟨sd, ?_⟩
    refine callT_atN [2, 0, 3] [_, _, _] hp2 rfl rfl ⟨rfl, rfl, rfl, trivial⟩ mB mB rfl ?_
    refine fxl ?_
    refine evl ?_
    repeat refine ⟨sd, ?_⟩
    refine k19 (k18 (rgn 0 ?_))
    repeat refine ⟨sd, ?_⟩
    refine hK15 _ _ ?_
    refine wpl_round fun K21 hK21 => sq fun _ k22 => rgn 0 ?_
    repeat refine ⟨sd, ?_⟩
    refine k22 (sq fun _ k23 => cd rfl (fun h4 => ?_) (fun h4 => ?_))
    ·refine wps_skip (k23 (sq fun _ k24 => bk fun _ k25 => sq fun _ k26 => rgn 0 ?_))
     repeat refine ⟨sd, ?_⟩
     refine k26 (rgn 0 ?_)
     repeat refine ⟨sd, ?_⟩
     refine callT_atN [2, 0, 4] [_, _, _] hp3 rfl rfl ⟨rfl, rfl, rfl, trivial⟩ mB mB rfl ?_
     refine fxl ?_
     refine evl ?_
     repeat refine ⟨sd, ?_⟩
     refine k25 (k24 (rgn 0 ?_))
     repeat refine ⟨sd, ?_⟩
     refine hK21 _ _ ?_
     refine wpl_round fun K27 hK27 => sq fun _ k28 => rgn 0 ?_
     repeat refine ⟨sd, ?_⟩
     refine k28 (sq fun _ k29 => cd rfl (fun h5 => ?_) (fun h5 => ?_))
     ·refine wps_skip (k29 (sq fun _ k30 => bk fun _ k31 => sq fun _ k32 => rgn 0 ?_))
      repeat refine ⟨sd, ?_⟩
      refine k32 (rgn 0 ?_)
      repeat refine ⟨sd, ?_⟩
      refine callT_atN [2, 0, 5] [_, _, _] hp4 rfl rfl ⟨rfl, rfl, rfl, trivial⟩ mB mB rfl ?_
      refine fxl ?_
      refine evl ?_
      repeat refine ⟨sd, ?_⟩
      refine k31 (k30 (rgn 0 ?_))
      repeat refine ⟨sd, ?_⟩
      refine hK27 _ _ ?_
      refine wpl_round fun K33 hK33 => sq fun _ k34 => rgn 0 ?_
      repeat refine ⟨sd, ?_⟩
      refine k34 (sq fun _ k35 => cd rfl (fun h6 => ?_) (fun h6 => ?_))
      ·refine wps_skip (k35 (sq fun _ k36 => bk fun _ k37 => sq fun _ k38 => rgn 0 ?_))
       repeat refine ⟨sd, ?_⟩
       refine k38 (rgn 0 ?_)
       repeat refine ⟨sd, ?_⟩
       refine callT_atN [2, 0, 6] [_, _, _] hp5 rfl rfl ⟨rfl, rfl, rfl, trivial⟩ mB mB rfl ?_
       refine fxl ?_
       refine evl ?_
       repeat refine ⟨sd, ?_⟩
       refine k37 (k36 (rgn 0 ?_))
       repeat refine ⟨sd, ?_⟩
       refine hK33 _ _ ?_
       refine wpl_round fun K39 hK39 => sq fun _ k40 => rgn 0 ?_
       repeat refine ⟨sd, ?_⟩
       refine k40 (sq fun _ k41 => cd rfl (fun h7 => ?_) (fun h7 => ?_))
       ·refine wps_skip (k41 (sq fun _ k42 => bk fun _ k43 => sq fun _ k44 => rgn 0 ?_))
        repeat refine ⟨sd, ?_⟩
        refine k44 (rgn 0 ?_)
        repeat refine ⟨sd, ?_⟩
        refine callT_atN [2, 0, 7] [_, _, _] hp6 rfl rfl ⟨rfl, rfl, rfl, trivial⟩ mB mB rfl ?_
        refine fxl ?_
        refine evl ?_
        repeat refine ⟨sd, ?_⟩
        refine k43 (k42 (rgn 0 ?_))
        repeat refine ⟨sd, ?_⟩
        refine hK39 _ _ ?_
        refine wpl_round fun K45 hK45 => sq fun _ k46 => rgn 0 ?_
        repeat refine ⟨sd, ?_⟩
        refine k46 (sq fun _ k47 => cd rfl (fun h8 => ?_) (fun h8 => ?_))
        ·refine wps_skip (k47 (sq fun _ k48 => bk fun _ k49 => sq fun _ k50 => rgn 0 ?_))
         repeat refine ⟨sd, ?_⟩
         refine k50 (rgn 0 ?_)
         repeat refine ⟨sd, ?_⟩
         refine callT_atN [2, 0, 8] [_, _, _] hp7 rfl rfl ⟨rfl, rfl, rfl, trivial⟩ mB mB rfl ?_
         refine fxl ?_
         refine evl ?_
         repeat refine ⟨sd, ?_⟩
         refine k49 (k48 (rgn 0 ?_))
         repeat refine ⟨sd, ?_⟩
         refine hK45 _ _ ?_
         refine wpl_round fun K51 hK51 => sq fun _ k52 => rgn 0 ?_
         repeat refine ⟨sd, ?_⟩
         refine k52 (sq fun _ k53 => cd rfl (fun h9 => ?_) (fun h9 => ?_))
         ·refine wps_skip (k53 (sq fun _ k54 => bk fun _ k55 => sq fun _ k56 => rgn 0 ?_))
          repeat refine ⟨sd, ?_⟩
          refine k56 (rgn 0 ?_)
          repeat refine ⟨sd, ?_⟩
          refine callT_atN [2, 0, 9] [_, _, _] hp8 rfl rfl ⟨rfl, rfl, rfl, trivial⟩ mB mB rfl ?_
          refine fxl ?_
          refine evl ?_
          repeat refine ⟨sd, ?_⟩
          refine k55 (k54 (rgn 0 ?_))
          repeat refine ⟨sd, ?_⟩
          refine hK51 _ _ ?_
          refine wpl_round fun K57 hK57 => sq fun _ k58 => rgn 0 ?_
          repeat refine ⟨sd, ?_⟩
          refine k58 (sq fun _ k59 => cd rfl (fun h10 => ?_) (fun h10 => ?_))
          ·exact absurd h10 (by simp)
          ·refine wps_exit ?_
           simp only [reduceIte, Nat.reduceEqDiff]
           refine k8 (k6 (sq fun _ k60 => rgn 0 ?_))
           repeat refine ⟨sd, ?_⟩
           refine k60 (wps_ret ?_)
           refine retL [some 10] mA mO rfl rfl ?_
           simp only [go_sem, and_true, true_and, implies_true, reduceIte, Nat.reduceEqDiff, Nat.reduceAdd, Nat.reduceLT, List.nil_append, be8, List.append_assoc, List.cons_append, Nat.reducePow, Nat.div_one]
         ·exact absurd h9 (by simp)
        ·exact absurd h8 (by simp)
       ·exact absurd h7 (by simp)
      ·exact absurd h6 (by simp)
     ·exact absurd h5 (by simp)
    ·exact absurd h4 (by simp)
   ·exact absurd h3 (by simp)
  ·exact absurd h2 (by simp)

def unbe (l : List UInt8) : Nat := l.foldl (fun a b => a * 256 + b.toNat) 0
theorem unbe_app (l : List UInt8) (b : UInt8) : unbe (l ++ [b]) = unbe l * 256 + b.toNat := by simp [unbe]
theorem unbe_from : ∀ (l : List UInt8) (a : Nat), l.foldl (fun a b => a * 256 + b.toNat) a < (a + 1) * 256 ^ l.length
 | [], a => by simp
 | b :: l, a => by
  have ih := unbe_from l (a * 256 + b.toNat)
  have hb := b.toNat_lt
  rw [List.foldl_cons, List.length_cons, Nat.pow_succ]
  refine Nat.lt_of_lt_of_le ih ?_
  rw [Nat.mul_comm (256 ^ l.length) 256, ← Nat.mul_assoc]
  exact Nat.mul_le_mul_right _ (by omega)
theorem unbe_lt (l : List UInt8) : unbe l < 256 ^ l.length := by have := unbe_from l 0; rw [Nat.zero_add, Nat.one_mul] at this; exact this
theorem btake_succ {l : List UInt8} {i : Nat} (h : i < l.length) : l.take (i + 1) = l.take i ++ [l.getD i 0] := by
 rw [List.take_succ, List.getElem?_eq_getElem h, List.getD_eq_getElem?_getD, List.getElem?_eq_getElem h]; rfl
theorem bdrop_at {l : List UInt8} {i : Nat} (h : i < l.length) : l.drop i = l.getD i 0 :: l.drop (i + 1) := by
 rw [List.drop_eq_getElem_cons h, List.getD_eq_getElem?_getD, List.getElem?_eq_getElem h]; rfl

theorem wrapu_nat {n : Nat} (h : n < 18446744073709551616) : IntKind.u64.wrap (n : Int) = n := wrapu64 (by omega) (by omega)
theorem or8 {v b : Nat} (hv : v < 72057594037927936) (hb : b < 256) : bits .or .u64 (IntKind.u64.wrap ((v : Int) * 2 ^ min 8 64)) (IntKind.u64.wrap (b : Int)) = ((v * 256 + b : Nat) : Int) := by
 have e1 : IntKind.u64.wrap ((v : Int) * 2 ^ min 8 64) = ((v * 256 : Nat) : Int) := by
  rw [show ((v : Int) * 2 ^ min 8 64) = ((v * 256 : Nat) : Int) by rw [show min 8 64 = 8 from rfl]; omega]
  exact wrapu_nat (by omega)
 rw [e1, wrapu_nat (by omega)]
 unfold bits
 have h1 : (BitVec.ofInt IntKind.u64.bits ((v * 256 : Nat) : Int)).toNat = v * 256 := by
  rw [BitVec.ofInt_natCast, BitVec.toNat_ofNat]; exact Nat.mod_eq_of_lt (by show v * 256 < 2 ^ 64; omega)
 have h2 : (BitVec.ofInt IntKind.u64.bits ((b : Nat) : Int)).toNat = b := by
  rw [BitVec.ofInt_natCast, BitVec.toNat_ofNat]; exact Nat.mod_eq_of_lt (by show b < 2 ^ 64; omega)
 have h3 : v * 256 ||| b = v * 256 + b := by
  have := Nat.two_pow_add_eq_or_of_lt (i := 8) (b := b) (by omega) v
  rw [Nat.mul_comm v 256]; exact this.symm
 simp only [BitVec.toNat_or, h1, h2, h3]
 exact wrapu_nat (by omega)

theorem nget_ok (l : List UInt8) (q : Option Nat) (n : Nat) (h1 : 1 ≤ n) (h8 : n ≤ 8) (hl : n ≤ l.length) (hl2 : l.length ≤ 1000000) : CallT Tryz.prog 129 [.u (.fz (bs l) q), .u (.i .i64 (n : Int))] []
  fun r σ => r = .tup [.u (.i .u64 (unbe (l.take n) : Int)), .u (.fz (bs (l.drop n)) none), .u (.i .i64 0)] ∧ σ = [] := by
 refine cof 40 [.tmp 4, .tmp 5, .tmp 6] Tryz.func129 Tryz.ntmps129 fun c hnt hc0 => ?_
 refine sq fun _ k1 => rgn 0 ?_
 repeat refine ⟨sd, ?_⟩
 refine k1 (sq fun _ k2 => bk fun _ k3 => sq fun _ k4 => rgn 0 ?_)
 repeat refine ⟨sd, ?_⟩
 refine k4 (cd rfl (fun h1 => ?_) (fun h1 => ?_))
 ·exact absurd h1 (by simp; omega)
 ·refine sq fun _ k5 => rgn 0 ?_
  repeat refine ⟨sd, ?_⟩
  refine k5 (cd rfl (fun h2 => ?_) (fun h2 => ?_))
  ·exact absurd h2 (by simp; omega)
  ·refine wps_skip (k3 (k2 (sq fun _ k6 => rgn 0 ?_)))
   repeat refine ⟨sd, ?_⟩
   refine k6 (sq fun _ k7 => sq fun _ k8 => rgn 0 ?_)
   repeat refine ⟨sd, ?_⟩
   refine k8 (bk fun _ k9 => ?_)
   refine wps_loop (fun k e σ => ∃ i : Nat, k = n - i ∧ i ≤ n ∧ e = [(0, .u (.fz (bs l) q)), (1, .u (.i .i64 (n : Int))), (7, .u (.i .u64 (unbe (l.take i) : Int))), (21, .u (.i .i64 (n : Int))), (22, .u (.i .i64 (i : Int)))] ∧ σ = [])
    (e0 := [(0, .u (.fz (bs l) q)), (1, .u (.i .i64 (n : Int))), (7, .u (.i .u64 0)), (21, .u (.i .i64 (n : Int))), (22, .u (.i .i64 0))]) (σ0 := []) (entL hc0 [] rfl rfl mB mB) ⟨0, rfl, Nat.zero_le _, rfl, rfl⟩ fun KL k e1 σ1 hI hKL => ?_
   obtain ⟨i, rfl, hi, rfl, rfl⟩ := hI
   refine sq fun _ k10 => rgn 0 ?_
   repeat refine ⟨sd, ?_⟩
   refine k10 (sq fun _ k11 => cd rfl (fun h3 => ?_) (fun h3 => ?_))
   ·simp at h3
    have hil : i < l.length := by omega
    have hel := bs_at hil
    have hlt := unbe_lt (l.take i)
    have hli : (l.take i).length = i := by simp; omega
    rw [hli] at hlt
    have hp : 256 ^ i ≤ 256 ^ 7 := Nat.pow_le_pow_right (by decide) (by omega)
    have hor := or8 (v := unbe (l.take i)) (b := (l.getD i 0).toNat) (by omega) (UInt8.toNat_lt _)
    rw [← unbe_app, ← btake_succ hil] at hor
    have hw1 := wi1 i
    refine wps_skip (k11 (sq fun _ k12 => bk fun _ k13 => sq fun _ k14 => rgn 0 ?_))
    repeat refine ⟨sd, ?_⟩
    refine k14 (rg 0 ?_)
    refine evx2 hel hor ?_
    repeat refine ⟨sd, ?_⟩
    refine k13 (k12 (rg 0 ?_))
    refine evx hw1 ?_
    repeat refine ⟨sd, ?_⟩
    exact hKL _ _ (n - (i + 1)) _ _ (entL hc0 [] rfl rfl mB mB) ⟨i + 1, rfl, by omega, rfl, rfl⟩ (by omega)
   ·simp at h3
    have hin : i = n := by omega
    subst hin
    have hta : (bs l).take l.length = bs l := by rw [← bs_len l, List.take_length]
    refine wps_exit ?_
    simp only [reduceIte, Nat.reduceEqDiff]
    refine k9 (k7 (sq fun _ k15 => rg 1 ?_))
    refine evx2 hta @bs_drop ?_
    repeat refine ⟨sd, ?_⟩
    refine k15 ?_
    refine wps_ent (e' := [(4, .u (.i .u64 (unbe (l.take i) : Int))), (5, .u (.fz (bs (l.drop i)) none)), (6, .u (.i .i64 0))]) (σ' := []) ((entF 0 rfl (e' := [(4, .u (.i .u64 (unbe (l.take i) : Int))), (5, .u (.fz (bs (l.drop i)) none)), (6, .u (.i .i64 0))]) mB rfl).trans (entL hc0 [] rfl rfl mB mB)) ?_
    refine wps_ret ?_
    refine retL [] mA mO rfl rfl ?_
    exact mT

theorem nget_short (l : List UInt8) (q : Option Nat) (n : Nat) (h1 : 1 ≤ n) (h8 : n ≤ 8) (hl : l.length < n) : CallT Tryz.prog 129 [.u (.fz (bs l) q), .u (.i .i64 (n : Int))] []
  fun r σ => r = .tup [.u (.i .u64 0), .u (.fz [] (some 0)), .u (.i .i64 10)] ∧ σ = [] := by
 refine cof 40 [.tmp 4, .tmp 5, .tmp 6] Tryz.func129 Tryz.ntmps129 fun c hnt hc0 => ?_
 refine sq fun _ k1 => rgn 0 ?_
 repeat refine ⟨sd, ?_⟩
 refine k1 (sq fun _ k2 => bk fun _ k3 => sq fun _ k4 => rgn 0 ?_)
 repeat refine ⟨sd, ?_⟩
 refine k4 (cd rfl (fun h1 => ?_) (fun h1 => ?_))
 ·exact absurd h1 (by simp; omega)
 ·refine sq fun _ k5 => rgn 0 ?_
  repeat refine ⟨sd, ?_⟩
  refine k5 (cd rfl (fun h2 => ?_) (fun h2 => ?_))
  ·refine sq fun _ k6 => rgn 0 ?_
   repeat refine ⟨sd, ?_⟩
   refine k6 (wps_ret ?_)
   refine retL [] mA mO rfl rfl ?_
   exact mT
  ·exact absurd h2 (by simp; omega)

theorem and127 : ∀ w : Fin 256, bits .and .u8 (w.val : Int) 127 = ((w.val % 128 : Nat) : Int) := by decide +kernel
theorem orShift {a n k : Nat} (hk : k ≤ 63) (ha : a < 2 ^ k) (hn : a + n * 2 ^ k < 18446744073709551616) : bits .or .u64 (a : Int) (IntKind.u64.wrap ((n : Int) * 2 ^ min k 64)) = ((a + n * 2 ^ k : Nat) : Int) := by
 have e1 : IntKind.u64.wrap ((n : Int) * 2 ^ min k 64) = ((n * 2 ^ k : Nat) : Int) := by
  rw [show ((n : Int) * 2 ^ min k 64) = ((n * 2 ^ k : Nat) : Int) by rw [show min k 64 = k by omega]; simp]
  exact wrapu_nat (by omega)
 rw [e1]
 unfold bits
 have h1 : (BitVec.ofInt IntKind.u64.bits ((n * 2 ^ k : Nat) : Int)).toNat = n * 2 ^ k := by
  rw [BitVec.ofInt_natCast, BitVec.toNat_ofNat]; exact Nat.mod_eq_of_lt (by show n * 2 ^ k < 2 ^ 64; omega)
 have h2 : (BitVec.ofInt IntKind.u64.bits ((a : Nat) : Int)).toNat = a := by
  rw [BitVec.ofInt_natCast, BitVec.toNat_ofNat]; exact Nat.mod_eq_of_lt (by show a < 2 ^ 64; omega)
 have h3 : a ||| n * 2 ^ k = a + n * 2 ^ k := by
  have := Nat.two_pow_add_eq_or_of_lt (i := k) (b := a) ha n
  rw [Nat.or_comm, Nat.mul_comm n, ← this, Nat.add_comm]
 simp only [BitVec.toNat_or, h1, h2, h3]
 exact wrapu_nat (by omega)

theorem getvar_ok (v : Nat) (rest : List UInt8) (q : Option Nat) (hv : v < 18446744073709551616) (hl : rest.length ≤ 1000000) : CallT Tryz.prog 128 [.u (.fz (bs (vput v ++ rest)) q)] []
  fun r σ => r = .tup [.u (.i .u64 (v : Int)), .u (.fz (bs rest) none), .u (.i .i64 0)] ∧ σ = [] := by
 have h10 := vput_10 v hv
 obtain ⟨l, hL⟩ : ∃ l, l = vput v ++ rest := ⟨_, rfl⟩
 have hll : l.length ≤ 1000010 := by rw [hL]; simp; omega
 rw [← hL]
 refine cof 57 [.tmp 2, .tmp 3, .tmp 4] Tryz.func128 Tryz.ntmps128 fun c hnt hc0 => ?_
 refine sq fun _ k1 => rgn 0 ?_
 repeat refine ⟨sd, ?_⟩
 refine k1 (sq fun _ k2 => rgn 0 ?_)
 repeat refine ⟨sd, ?_⟩
 refine k2 (sq fun _ k3 => sq fun _ k4 => rgn 0 ?_)
 repeat refine ⟨sd, ?_⟩
 refine k4 (bk fun _ k5 => ?_)
 refine wps_loop (fun k e σ => ∃ (i n a : Nat) (pre : List UInt8), k = 20 - i ∧ pre.length = i ∧ l = pre ++ vput n ++ rest ∧ v = a + n * 2 ^ (7 * i) ∧ a < 2 ^ (7 * i) ∧ (0 < i → 1 ≤ n) ∧
   e = [(0, .u (.fz (bs l) q)), (5, .u (.i .u64 (a : Int))), (9, .u (.i .i64 (l.length : Int))), (10, .u (.i .i64 (i : Int)))] ∧ σ = [])
  (e0 := [(0, .u (.fz (bs l) q)), (5, .u (.i .u64 0)), (9, .u (.i .i64 (l.length : Int))), (10, .u (.i .i64 0))]) (σ0 := []) (entL hc0 [] rfl rfl mB mB) ⟨0, v, 0, [], rfl, rfl, hL, by simp, by simp, by simp, rfl, rfl⟩ fun KL k e1 σ1 hI hKL => ?_
 obtain ⟨i, n, a, pre, rfl, hpl, hl', hva, ha, hn1, rfl, rfl⟩ := hI
 have hi9 : i ≤ 9 := by
  rcases Nat.lt_or_ge i 10 with h | h
  ·omega
  ·have h1 : 2 ^ 70 ≤ 2 ^ (7 * i) := Nat.pow_le_pow_right (by decide) (by omega)
   have h2 : 1 * 2 ^ (7 * i) ≤ n * 2 ^ (7 * i) := Nat.mul_le_mul_right _ (hn1 (by omega))
   omega
 have hil : i < l.length := by
  have := vput_pos n
  rw [hl']; simp; omega
 refine sq fun _ k6 => rgn 0 ?_
 repeat refine ⟨sd, ?_⟩
 refine k6 (sq fun _ k7 => cd rfl (fun h1 => ?_) (fun h1 => ?_))
 ·have hel := bs_at hil
  have hw1 := wi1 i
  have hw7 : IntKind.i64.wrap (7 * (i : Int)) = ((7 * i : Nat) : Int) := by rw [wrap64 (by omega) (by omega)]; omega
  have hwu := wrapu_nat (n := 7 * i) (by omega)
  have hge : l.getD i 0 = (vput n ++ rest).getD 0 0 := by
   rw [hl', List.getD_eq_getElem?_getD, List.append_assoc, List.getElem?_append_right (by omega), hpl, Nat.sub_self, List.getD_eq_getElem?_getD]
  refine wps_skip (k7 (sq fun _ k8 => bk fun _ k9 => sq fun _ k10 => rgn 0 ?_))
  repeat refine ⟨sd, ?_⟩
  refine k10 (sq fun _ k11 => ?_)
  by_cases hn : n < 128
  ·have hx : (l.getD i 0).toNat = n := by
    rw [hge, vput_lt hn]; simp; omega
   rw [hx] at hel
   have hn9 : i = 9 → n ≤ 1 := by
    intro h; subst h
    have : n * 2 ^ 63 < 18446744073709551616 := by simp at hva; omega
    omega
   have hwn := wrapu_nat (n := n) (by omega)
   have hor := orShift (a := a) (n := n) (k := 7 * i) (by omega) ha (by omega)
   rw [← hva] at hor
   have hdr : l.drop (i + 1) = rest := by
    rw [hl', vput_lt hn, List.drop_left' (by simp; omega)]
   have hta : (bs l).take l.length = bs l := by rw [← bs_len l, List.take_length]
   refine rg 0 ?_
   refine evx hel ?_
   repeat refine ⟨sd, ?_⟩
   refine k11 (bk fun _ k12 => sq fun _ k13 => sq fun _ k14 => rgn 0 ?_)
   repeat refine ⟨sd, ?_⟩
   refine k14 (cd rfl (fun h2 => ?_) (fun h2 => ?_))
   ·exact absurd h2 (by simp; omega)
   ·refine rgn 0 ?_
    repeat refine ⟨sd, ?_⟩
    refine k13 (cd rfl (fun h3 => ?_) (fun h3 => ?_))
    ·exact absurd h3 (by simp; omega)
    ·refine sq fun _ k15 => ?_
     refine wps_keep [0, 5, 6, 7, 9, 10] mK ?_
     refine rgn 0 ?_
     repeat refine ⟨sd, ?_⟩
     refine k15 (cd rfl (fun h4 => ?_) (fun h4 => ?_))
     ·refine sq fun _ k16 => rg 1 ?_
      simp only [↓kOps_app, ↓evOps_nil, ↓evOps_cons, go_sem, Int.reduceAdd, Int.reduceBEq, Int.reduceEq, Int.reduceLE, Int.reduceLT, Int.reduceNe, Int.reduceSub, Int.reduceToNat, Nat.reduceAdd, Nat.reduceBEq, Nat.reduceEqDiff, Nat.reduceLT, Nat.reduceLeDiff, Nat.reduceMul, Nat.reduceSub, reduceCtorEq, reduceIte, hw7, hwu, hwn, hor, hw1, hta, bs_drop, hdr]
      repeat refine ⟨sd, ?_⟩
      refine k16 ?_
      refine wps_ent (e' := [(2, .u (.i .u64 (v : Int))), (3, .u (.fz (bs rest) none)), (4, .u (.i .i64 0))]) (σ' := []) ((entF 0 rfl (e' := [(2, .u (.i .u64 (v : Int))), (3, .u (.fz (bs rest) none)), (4, .u (.i .i64 0))]) mB rfl).trans (entL hc0 [] rfl rfl mB mB)) ?_
      refine wps_ret ?_
      refine retL [] mA mO rfl rfl ?_
      exact mT
     ·exact absurd h4 (by simp; omega)
  ·have hx : (l.getD i 0).toNat = n % 128 + 128 := by
    rw [hge, vput_ge hn]; simp; omega
   rw [hx] at hel
   have hn9 : i ≤ 8 := by
    rcases Nat.lt_or_ge i 9 with h | h
    ·omega
    ·have : i = 9 := by omega
     subst this
     have : n * 2 ^ 63 < 18446744073709551616 := by simp at hva; omega
     omega
   have han : bits .and .u8 ((n % 128 + 128 : Nat) : Int) 127 = ((n % 128 : Nat) : Int) := by
    have := and127 ⟨n % 128 + 128, by omega⟩
    simp only at this
    rw [this]; congr 1; omega
   have hwn := wrapu_nat (n := n % 128) (by omega)
   have hsplit : n * 2 ^ (7 * i) = n % 128 * 2 ^ (7 * i) + n / 128 * 2 ^ (7 * (i + 1)) := by
    rw [show 7 * (i + 1) = 7 + 7 * i by omega, Nat.pow_add, ← Nat.mul_assoc, ← Nat.add_mul]
    congr 1; omega
   have hor := orShift (a := a) (n := n % 128) (k := 7 * i) (by omega) ha (by omega)
   have ha2 : a + n % 128 * 2 ^ (7 * i) < 2 ^ (7 * (i + 1)) := by
    rw [show 7 * (i + 1) = 7 + 7 * i by omega, Nat.pow_add]
    have : n % 128 * 2 ^ (7 * i) ≤ 127 * 2 ^ (7 * i) := Nat.mul_le_mul_right _ (by omega)
    omega
   refine rg 0 ?_
   refine evx hel ?_
   repeat refine ⟨sd, ?_⟩
   refine k11 (bk fun _ k17 => sq fun _ k18 => sq fun _ k19 => rgn 0 ?_)
   repeat refine ⟨sd, ?_⟩
   refine k19 (cd rfl (fun h2 => ?_) (fun h2 => ?_))
   ·exact absurd h2 (by simp; omega)
   ·refine rgn 0 ?_
    repeat refine ⟨sd, ?_⟩
    refine k18 (cd rfl (fun h3 => ?_) (fun h3 => ?_))
    ·exact absurd h3 (by simp; omega)
    ·refine sq fun _ k20 => ?_
     refine wps_keep [0, 5, 6, 7, 9, 10] mK ?_
     refine rgn 0 ?_
     repeat refine ⟨sd, ?_⟩
     refine k20 (cd rfl (fun h4 => ?_) (fun h4 => ?_))
     ·exact absurd h4 (by simp; omega)
     ·refine rg 0 ?_
      refine evx5 hw7 hwu han hwn hor ?_
      repeat refine ⟨sd, ?_⟩
      refine k17 (k9 (k8 (rg 0 ?_)))
      refine evx hw1 ?_
      repeat refine ⟨sd, ?_⟩
      exact hKL _ _ (20 - (i + 1)) _ _ (entL hc0 [] rfl rfl mB mB) ⟨i + 1, n / 128, a + n % 128 * 2 ^ (7 * i), pre ++ [UInt8.ofNat (n % 128 + 128)], rfl, by simp; omega, by rw [hl', vput_ge hn]; simp, by omega, ha2, fun _ => by omega, rfl, rfl⟩ (by omega)
 ·exact absurd h1 (by simp; omega)
end Go.Proofs.YtefipnajpabfgaaGreatDoor
