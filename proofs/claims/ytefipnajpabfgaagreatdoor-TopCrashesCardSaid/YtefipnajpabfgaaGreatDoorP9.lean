/- Part 9 of the proof: what functions of the program do, and plain facts on what they compute. -/
import Derived.Test.YtefipnajpabfgaaGreatDoorP8
import Derived.Shelf.RegionOpenPlain
import Derived.WalkKit
import Derived.Lib.Walk
import Derived.Lib.SliceRun
import Derived.Lib.AppendZerosOnto
import Derived.Laws.Externs
import Derived.Laws.IdiomCopy
import Derived.Laws.NewBlocks
set_option linter.all false
set_option maxRecDepth 40000
set_option maxHeartbeats 16000000
set_option linter.unusedSimpArgs false
set_option linter.unusedVariables false
namespace Go.Proofs.YtefipnajpabfgaaGreatDoor
open Go.Nm

theorem pagesL_count {w : Sec} {m : Nat} (h : ∀ i, (sget i w).isSome = decide (i < m)) : ∀ n, (pagesL w n).length = min n m
 | 0 => by simp [pagesL]
 | n + 1 => by
  rw [pagesL, List.length_append, pagesL_count h n, h n]
  by_cases hn : n < m
  ·rw [if_pos (by simpa using hn)]; simp; omega
  ·rw [if_neg (by simpa using hn)]; simp; omega

/-- the tree of a new store: one page without cells -/
def pg0 : Pg := ⟨true, 0, []⟩
def W0 : PgM := [(0, pg0)]
theorem pg0_ok : PgOK pg0 := ⟨by decide, by simp [pg0], trivial, by rw [page_len]; simp [pg0, cellsS, vput]⟩
theorem W0_some (i : Nat) : (sget i (enc W0)).isSome = decide (i < 1) := by
 by_cases h : i = 0
 ·subst h; rfl
 ·have h1 : ¬ i < 1 := by omega
  rw [decide_eq_false h1, enc_get]
  unfold W0
  rw [pget, if_neg h, pget]; rfl

theorem fits_ok : CallT Tryz.prog 110 [.agg [.u (.i .i64 0), .u (.i .i64 0), .u (.s []), .u (.s []), .u (.b true)], .agg [.u (.b true), .u (.i .i64 0), .u (.fz [] none)]] []
  fun r σ => r = .u (.b true) ∧ σ = [] := by
 refine cof 106 [.tmp 4] Tryz.func110 Tryz.ntmps110 fun c hnt hc0 => ?_
 refine sq fun _ k1 => rgn 2 ?_
 repeat refine ⟨sd, ?_⟩
 refine k1 (sq fun _ k2 => rgn 0 ?_)
 repeat refine ⟨sd, ?_⟩
 refine k2 (sq fun _ k3 => bk fun _ k4 => sq fun _ k5 => sq fun _ k6 => rgn 0 ?_)
 repeat refine ⟨sd, ?_⟩
 refine k6 (cd rfl (fun h1 => ?_) (fun h1 => ?_))
 ·exact absurd h1 (by simp)
 ·refine sq fun _ k7 => rgn 0 ?_
  repeat refine ⟨sd, ?_⟩
  refine k7 (cd rfl (fun h2 => ?_) (fun h2 => ?_))
  ·exact absurd h2 (by simp)
  ·refine rgn 0 ?_
   repeat refine ⟨sd, ?_⟩
   refine k5 (cd rfl (fun h3 => ?_) (fun h3 => ?_))
   ·exact absurd h3 (by simp)
   ·refine sq fun _ k8 => rgn 0 ?_
    repeat refine ⟨sd, ?_⟩
    refine k8 (cd rfl (fun h4 => ?_) (fun h4 => ?_))
    ·refine sq fun _ k9 => rgn 0 ?_
     repeat refine ⟨sd, ?_⟩
     refine k9 (wps_ret ?_)
     refine retL [] rfl ⟨trivial, trivial⟩ rfl rfl ?_
     exact mT
    ·exact absurd h4 (by simp)

theorem unil (k x : PV) : updPV k x [] = [(k, x)] := rfl

theorem tcheck_ok (vm gm : List (PV × PV)) (pr : List (List PV)) : CallT Tryz.prog 70 [.p 0 0] (tre W0 vm gm pr)
  fun r σ => r = .u (.b true) ∧ σ = tre W0 vm gm pr := by
 have hr := tread_ok W0 vm gm pr 0 pg0 rfl pg0_ok
 have hpg := pages_ok (enc W0) vm gm pr
 have hcnt : ((pagesL (enc W0) 90).map irow).length = 1 := by rw [List.length_map, pagesL_count W0_some]; rfl
 have hf := fits_ok
 have hk0 := knil (.i .i64 0)
 have hwm : IntKind.i64.wrap (0 - 1) = -1 := by decide
 unfold tre pgr dskC pgA pg0 at *
 simp only [List.map_nil, nl0] at hr
 refine cof 166 [.tmp 2] Tryz.func70 Tryz.ntmps70 fun c hnt hc0 => ?_
 refine sq fun _ k1 => rgn 0 ?_
 repeat refine ⟨sd, ?_⟩
 refine k1 (sq fun _ k2 => rgn 0 ?_)
 repeat refine ⟨sd, ?_⟩
 refine k2 (sq fun _ k3 => rgn 0 ?_)
 repeat refine ⟨sd, ?_⟩
 refine k3 (sq fun _ k4 => rgn 0 ?_)
 repeat refine ⟨sd, ?_⟩
 refine k4 (sq fun _ k5 => rgn 1 ?_)
 repeat refine ⟨sd, ?_⟩
 refine k5 (sq fun _ k6 => bk fun _ k7 => wps_loopU ?_)
 refine wpl_round fun K8 hK8 => sq fun _ k9 => sq fun _ k10 => rgn 0 ?_
 repeat refine ⟨sd, ?_⟩
 refine k10 (cd rfl (fun h1 => ?_) (fun h1 => ?_))
 ·refine wps_skip (k9 (bk fun _ k11 => sq fun _ k12 => rgn 1 ?_))
  repeat refine ⟨sd, ?_⟩
  refine k12 (sq fun _ k13 => ?_)
  refine wps_keep [0, 3, 4, 5, 6, 7, 8] mK ?_
  refine rgn 0 ?_
  repeat refine ⟨sd, ?_⟩
  refine k13 (sq fun _ k14 => rgn 1 ?_)
  repeat refine ⟨sd, ?_⟩
  refine callT_at [0, 1, 2, 3, 4, 5, 6, 7, 8, 9] [_, _, _, _, _, _, _, _, _, _] hr rfl rfl ⟨rfl, rfl, rfl, rfl, rfl, rfl, rfl, rfl, rfl, rfl, trivial⟩ mB mB rfl mR mR ?_
  refine evl ?_
  repeat refine ⟨sd, ?_⟩
  refine k14 (sq fun _ k15 => ?_)
  refine wps_keep [0, 3, 4, 5, 6, 7, 8, 9, 10] mK ?_
  refine rg 0 ?_
  simp only [↓kOps_app, ↓evOps_nil, ↓evOps_cons, go_sem, Int.reduceAdd, Int.reduceBEq, Int.reduceEq, Int.reduceLE, Int.reduceLT, Int.reduceNe, Int.reduceSub, Int.reduceToNat, Nat.reduceAdd, Nat.reduceBEq, Nat.reduceEqDiff, Nat.reduceLT, Nat.reduceLeDiff, Nat.reduceMul, Nat.reduceSub, reduceCtorEq, reduceIte, fnil, Option.isSome_none, Option.getD_none]
  repeat refine ⟨sd, ?_⟩
  refine k15 (sq fun _ k16 => ?_)
  refine wps_keep [0, 3, 4, 5, 6, 7, 8, 9, 10, 12] mK ?_
  refine rg 0 ?_
  refine evx @unil ?_
  repeat refine ⟨sd, ?_⟩
  refine k16 (sq fun _ k17 => sq fun _ k18 => ?_)
  refine wps_keep [0, 3, 4, 5, 6, 7, 8, 9, 10, 12] mK ?_
  refine rgn 0 ?_
  repeat refine ⟨sd, ?_⟩
  refine callT_at [] [] hf rfl rfl trivial mB mB rfl mR mR ?_
  refine evl ?_
  repeat refine ⟨sd, ?_⟩
  refine k18 (cd rfl (fun h2 => ?_) (fun h2 => ?_))
  ·exact absurd h2 (by simp)
  ·refine wps_skip (k17 (sq fun _ k19 => sq fun _ k20 => ?_))
   refine wps_keep [0, 3, 4, 5, 6, 7, 8, 9] mK ?_
   refine rgn 0 ?_
   repeat refine ⟨sd, ?_⟩
   refine k20 (cd rfl (fun h3 => ?_) (fun h3 => ?_))
   ·refine sq fun _ k21 => sq fun _ k22 => rgn 0 ?_
    repeat refine ⟨sd, ?_⟩
    refine k22 (cd rfl (fun h4 => ?_) (fun h4 => ?_))
    ·exact absurd h4 (by simp)
    ·refine wps_skip (k21 (sq fun _ k23 => ?_))
     refine wps_keep [0, 3, 4, 5, 6, 8, 9] mK ?_
     refine dr 2 [0, 0, 2, 7, 0, 0, 32, 96, 255, 0, 512, 511, 2559, 8191] mixed ?_
     refine evl ?_
     repeat refine ⟨sd, ?_⟩
     refine k23 ?_
     refine wps_exit ?_
     simp only [reduceIte, Nat.reduceEqDiff]
     refine k11 (hK8 _ _ ?_)
     refine wpl_round fun K24 hK24 => sq fun _ k25 => sq fun _ k26 => ?_
     refine wps_keep [0, 3, 4, 5, 6, 7] mK ?_
     refine rgn 0 ?_
     repeat refine ⟨sd, ?_⟩
     refine k26 (cd rfl (fun h1 => ?_) (fun h1 => ?_))
     ·exact absurd h1 (by simp)
     ·refine wps_exit ?_
      simp only [reduceIte, Nat.reduceEqDiff]
      refine k7 (k6 (sq fun _ k27 => sq fun _ k28 => rgn 0 ?_))
      repeat refine ⟨sd, ?_⟩
      refine k28 (bk fun _ k29 => wps_loopU ?_)
      refine wpl_round fun K30 hK30 => sq fun _ k31 => rgn 0 ?_
      repeat refine ⟨sd, ?_⟩
      refine k31 (sq fun _ k32 => cd rfl (fun h7 => ?_) (fun h7 => ?_))
      ·refine wps_skip (k32 (sq fun _ k33 => bk fun _ k34 => sq fun _ k35 => rgn 1 ?_))
       repeat refine ⟨sd, ?_⟩
       refine k35 (sq fun _ k36 => ?_)
       refine wps_keep [0, 5, 6, 15, 16, 134, 135, 136] mK ?_
       refine wps_ent (e' := [(0, .p 0 0), (5, .u (.fz [[.i .i64 0]] none)), (6, .h 10), (15, .u (.i .i64 0)), (16, .p 15 0), (134, .h 13), (135, .u (.i .i64 1)), (136, .u (.i .i64 0))]) (entF 14 rfl mB rfl) ?_
       refine rgn 1 ?_
       repeat refine ⟨sd, ?_⟩
       refine k36 (sq fun _ k37 => ?_)
       refine wps_keep [0, 5, 6, 16, 17, 134, 135, 136] mK ?_
       refine rgn 0 ?_
       repeat refine ⟨sd, ?_⟩
       refine k37 (cd rfl (fun h8 => ?_) (fun h8 => ?_))
       ·exact absurd h8 (by simp)
       ·refine wps_skip (k34 (k33 (rgn 0 ?_)))
        repeat refine ⟨sd, ?_⟩
        refine hK30 _ _ ?_
        refine wpl_round fun K38 hK38 => sq fun _ k39 => rgn 0 ?_
        repeat refine ⟨sd, ?_⟩
        refine k39 (sq fun _ k40 => cd rfl (fun h7 => ?_) (fun h7 => ?_))
        ·exact absurd h7 (by simp)
        ·refine wps_exit ?_
         simp only [reduceIte, Nat.reduceEqDiff]
         refine k29 (k27 (sq fun _ k41 => ?_))
         refine wps_keep [0, 6] mK ?_
         refine dr 0 [0, 1, 0, 4, 12, 28, 63, 127, 255, 511] mixed ?_
         refine evx hcnt ?_
         repeat refine ⟨sd, ?_⟩
         refine callE_at [1, 2, 3, 4, 5, 6, 7, 8, 9] [_, _, _, _, _, _, _, _, _] hpg rfl rfl ⟨rfl, rfl, rfl, rfl, rfl, rfl, rfl, rfl, rfl, trivial⟩ mB mB rfl mR mR ?_
         refine evx hcnt ?_
         repeat refine ⟨sd, ?_⟩
         refine k41 (wps_ret ?_)
         refine retL [some 0, some 1, some 2, some 3, some 4, some 5, some 6, some 7, some 8, some 9] rfl ⟨trivial, trivial⟩ rfl rfl ?_
         exact mT
      ·exact absurd h7 (by simp)
   ·exact absurd h3 (by simp)
 ·exact absurd h1 (by simp)

theorem topen_ok (vm gm : List (PV × PV)) (pr : List (List PV)) : CallT Tryz.prog 45 [.p 0 0] (pgr [] vm gm pr)
  fun r σ => r = .tup [.p 9 0, .u (.i .i64 0)] ∧ σ = pgr (enc W0) vm gm pr ++ [.cells [.p 0 0]] := by
 have hpg := pages_ok [] vm gm pr
 have hcnt : ((pagesL [] 90).map irow).length = 0 := by rw [List.length_map, pagesL_count (m := 0) (fun i => rfl)]; rfl
 have hw := twrite_ok [] vm gm pr 0 pg0 (some 0) (by decide) pg0_ok
 have hck := tcheck_ok vm gm pr
 rw [show pput 0 pg0 [] = W0 from rfl] at hw
 unfold tre pgr dskC pgA pg0 at *
 simp only [List.map_nil, nl0, show enc [] = [] from rfl] at *
 refine cof 19 [.tmp 2, .tmp 3] Tryz.func45 Tryz.ntmps45 fun c hnt hc0 => ?_
 refine sq fun _ k1 => rgn 0 ?_
 repeat refine ⟨sd, ?_⟩
 refine k1 (sq fun _ k2 => rgn 1 ?_)
 repeat refine ⟨sd, ?_⟩
 refine k2 (sq fun _ k3 => sq fun _ k4 => rg 0 ?_)
 refine evx hcnt ?_
 repeat refine ⟨sd, ?_⟩
 refine callT_at [0, 1, 2, 3, 4, 5, 6, 7, 8] [_, _, _, _, _, _, _, _, _] hpg rfl rfl ⟨rfl, rfl, rfl, rfl, rfl, rfl, rfl, rfl, rfl, trivial⟩ mB mB rfl mR mR ?_
 refine evx hcnt ?_
 repeat refine ⟨sd, ?_⟩
 refine k4 (cd rfl (fun h1 => ?_) (fun h1 => ?_))
 ·refine rgn 0 ?_
  repeat refine ⟨sd, ?_⟩
  refine callT_at [9, 0, 1, 2, 3, 4, 5, 6, 7, 8] [_, _, _, _, _, _, _, _, _, _] hw rfl rfl ⟨rfl, rfl, rfl, rfl, rfl, rfl, rfl, rfl, rfl, rfl, trivial⟩ mB mB rfl mR mR ?_
  refine evl ?_
  repeat refine ⟨sd, ?_⟩
  refine k3 (sq fun _ k5 => sq fun _ k6 => rgn 0 ?_)
  repeat refine ⟨sd, ?_⟩
  refine callT_at [9, 0, 1, 2, 3, 4, 5, 6, 7, 8] [_, _, _, _, _, _, _, _, _, _] hck rfl rfl ⟨rfl, rfl, rfl, rfl, rfl, rfl, rfl, rfl, rfl, rfl, trivial⟩ mB mB rfl mR mR ?_
  refine evl ?_
  repeat refine ⟨sd, ?_⟩
  refine k6 (cd rfl (fun h2 => ?_) (fun h2 => ?_))
  ·exact absurd h2 (by simp)
  ·refine wps_skip (k5 (sq fun _ k7 => rgn 0 ?_))
   repeat refine ⟨sd, ?_⟩
   refine k7 (wps_ret ?_)
   refine retL [some 0, some 1, some 2, some 3, some 4, some 5, some 6, some 7, some 8, some 9] mA mO rfl rfl ?_
   exact mU
 ·exact absurd h1 (by simp)

/-! ### the way down -/
def below (key : List UInt8) (l : List Cel) : Nat := if keyAt key l then lob key l else lob key l - 1
theorem below_ok (p : Pg) (q : Option Nat) (key : List UInt8) (hs : Sorted p.cells) (hl : p.cells.length ≤ 1000000) : CallT Tryz.prog 125 [pgA p q, .u (.s key)] []
  fun r σ => r = .u (.i .i64 (below key p.cells : Int)) ∧ σ = [] := by
 have hle := lob_le key p.cells
 have hf := find_ok p q key hs hl
 obtain ⟨K, hK⟩ : ∃ K, lob key p.cells = K := ⟨_, rfl⟩
 obtain ⟨B, hB⟩ : ∃ B, keyAt key p.cells = B := ⟨_, rfl⟩
 have hbe : below key p.cells = if B then K else K - 1 := by rw [below, hK, hB]
 rw [hK, hB] at hf
 have hw1 : IntKind.i64.wrap ((K : Int) - 1) = (K : Int) - 1 := wrap64 (by omega) (by omega)
 have hm1 : max ((K : Int) - 1) 0 = ((K - 1 : Nat) : Int) := by omega
 have hm2 : max (K : Int) 0 = (K : Int) := by omega
 unfold pgA at *
 refine cof 19 [.tmp 4] Tryz.func125 Tryz.ntmps125 fun c hnt hc0 => ?_
 refine sq fun _ k1 => rgn 1 ?_
 repeat refine ⟨sd, ?_⟩
 refine k1 (sq fun _ k2 => rgn 0 ?_)
 repeat refine ⟨sd, ?_⟩
 refine callT_at [] [] hf rfl rfl trivial mB mB rfl mR mR ?_
 refine evl ?_
 repeat refine ⟨sd, ?_⟩
 refine k2 (sq fun _ k3 => sq fun _ k4 => rgn 0 ?_)
 repeat refine ⟨sd, ?_⟩
 refine k4 (cd rfl (fun h1 => ?_) (fun h1 => ?_))
 ·have hBf : B = false := by simpa using h1
  subst hBf
  refine rg 0 ?_
  refine evx hw1 ?_
  repeat refine ⟨sd, ?_⟩
  refine k3 (sq fun _ k5 => rg 0 ?_)
  refine evx2 hm1 hm2 ?_
  repeat refine ⟨sd, ?_⟩
  refine k5 (wps_ret ?_)
  refine retL [] rfl ⟨trivial, trivial⟩ rfl rfl ?_
  simp only [go_sem, and_true, true_and, implies_true, reduceIte, Nat.reduceEqDiff, Nat.reduceAdd, Nat.reduceLT, hbe, Bool.false_eq_true, reduceIte]
 ·have hBt : B = true := by simpa using h1
  subst hBt
  refine wps_skip (k3 (sq fun _ k6 => rg 0 ?_))
  refine evx2 hm1 hm2 ?_
  repeat refine ⟨sd, ?_⟩
  refine k6 (wps_ret ?_)
  refine retL [] rfl ⟨trivial, trivial⟩ rfl rfl ?_
  simp only [go_sem, and_true, true_and, implies_true, reduceIte, Nat.reduceEqDiff, Nat.reduceAdd, Nat.reduceLT, hbe, Bool.false_eq_true, reduceIte]

structure Stp where
 id : Nat
 at_ : Nat
 pg : Pg
def srow (s : Stp) : List PV := [.i .i64 (s.id : Int), .i .i64 (s.at_ : Int), .b s.pg.leaf, .i .i64 (s.pg.next : Int), .fz (s.pg.cells.map crow) none]
theorem srow_ok1 (l : List Stp) : ∀ y ∈ l.map srow, y.length = 5 := by
 intro y hy
 obtain ⟨x, _, rfl⟩ := List.mem_map.1 hy
 rfl
theorem srow_ok2 (l : List Stp) : ∀ y ∈ l.map srow, ∀ p ∈ y, PV.one p = true := by
 intro y hy p hp
 obtain ⟨x, _, rfl⟩ := List.mem_map.1 hy
 simp only [srow, List.mem_cons, List.not_mem_nil, or_false] at hp
 rcases hp with rfl | rfl | rfl | rfl | rfl <;> rfl
inductive Way (W : PgM) (key : List UInt8) : Nat → List Stp → Prop
 | leaf {id : Nat} {p : Pg} (h1 : pget id W = some p) (h2 : p.leaf = true) (h3 : PgOK p) : Way W key id [⟨id, 0, p⟩]
 | node {id c : Nat} {p : Pg} {k : List UInt8} {l : List Stp} (h1 : pget id W = some p) (h2 : p.leaf = false) (h3 : PgOK p) (h4 : below key p.cells < p.cells.length) (h5 : p.cells.getD (below key p.cells) ([], []) = (k, vput c)) (h6 : 0 < c) (h7 : c < 90)
   (h8 : Way W key c l) : Way W key id (⟨id, below key p.cells, p⟩ :: l)
theorem PgOK.cells_le {p : Pg} (h : PgOK p) : p.cells.length ≤ 1100 := by
 have h1 := h.size
 have h2 := page_len p
 have h3 := cells_len p.cells
 omega

theorem way_ok (W : PgM) (vm gm : List (PV × PV)) (pr : List (List PV)) (key : List UInt8) (L : List Stp) (hW : Way W key 0 L) (hL : L.length ≤ 100) : CallT Tryz.prog 88 [.p 0 0, .u (.s key)] (tre W vm gm pr)
  fun r σ => r = .u (.fz (L.map srow) none) ∧ σ = tre W vm gm pr := by
 have hr := fun id p h1 h2 => tread_ok W vm gm pr id p h1 h2
 unfold tre dskC pgA at *
 refine cof 46 [.tmp 4] Tryz.func88 Tryz.ntmps88 fun c hnt hc0 => ?_
 refine sq fun _ k1 => rgn 0 ?_
 repeat refine ⟨sd, ?_⟩
 refine k1 (wps_seq fun K2 hK2 => rgn 0 ?_)
 repeat refine ⟨sd, ?_⟩
 refine hK2 _ _ (sq fun _ k3 => rgn 0 ?_)
 repeat refine ⟨sd, ?_⟩
 refine k3 (bk fun _ k4 => ?_)
 refine wps_loop (fun m e σ => ∃ (id : Nat) (dn todo : List Stp), m = todo.length ∧ Way W key id todo ∧ dn ++ todo = L ∧ e = [(0, .p 0 0), (1, .u (.s key)), (5, .h 10), (6, .u (.i .i64 (id : Int)))] ∧ σ = [.cells [.p 1 0], .cells [.p 6 0, .p 5 0, .u (.i .i64 0), .u (.i .i64 200), .u (.i .u64 0), .h 2, .h 3, .h 4], .map [], .map ((enc W).map sent), .map [], .cells [.p 6 0, .u (.i .i64 0), .u (.i .u64 0), .u (.i .i64 1)], .cells [.u (.i .i64 1000), .u (.i .i64 1000), .h 7, .h 8, .h 9], .map vm, .map gm, .row 116 1 pr] ++ [.row 190 5 (dn.map srow)])
  (e0 := [(0, .p 0 0), (1, .u (.s key)), (5, .h 10), (6, .u (.i .i64 0))]) (σ0 := [.cells [.p 1 0], .cells [.p 6 0, .p 5 0, .u (.i .i64 0), .u (.i .i64 200), .u (.i .u64 0), .h 2, .h 3, .h 4], .map [], .map ((enc W).map sent), .map [], .cells [.p 6 0, .u (.i .i64 0), .u (.i .u64 0), .u (.i .i64 1)], .cells [.u (.i .i64 1000), .u (.i .i64 1000), .h 7, .h 8, .h 9], .map vm, .map gm, .row 116 1 pr] ++ [.row 190 5 []]) ((ent_thaw 190 5 (t := 5) rfl).trans (entL hc0 [some 0, some 1, some 2, some 3, some 4, some 5, some 6, some 7, some 8, some 9, some 10] rfl rfl mB mB)) ⟨0, [], L, rfl, hW, rfl, rfl, rfl⟩ fun KL m e1 σ1 hI hKL => ?_
 obtain ⟨id, dn, todo, rfl, hWy, hdn, rfl, rfl⟩ := hI
 simp only [List.cons_append, List.nil_append]
 have hdl : dn.length ≤ 100 := by
  have := congrArg List.length hdn
  rw [List.length_append] at this; omega
 have hs1 := srow_ok1 dn
 have hs2 := srow_ok2 dn
 refine bk fun _ k5 => sq fun _ k6 => ?_
 rcases hWy with ⟨q1, q2, q3⟩ | @⟨_, c2, p, k2, l2, q1, q2, q3, q4, q5, q6, q7, q8⟩
 ·rename_i p
  obtain ⟨leaf, next, l⟩ := p
  simp only at q2
  subst q2
  have hrd := hr id _ q1 q3
  have hcl := q3.cells_le
  simp only at hrd hcl
  refine rgn 1 ?_
  repeat refine ⟨sd, ?_⟩
  refine callT_at [0, 1, 2, 3, 4, 5, 6, 7, 8, 9] [_, _, _, _, _, _, _, _, _, _] hrd rfl rfl ⟨rfl, rfl, rfl, rfl, rfl, rfl, rfl, rfl, rfl, rfl, trivial⟩ mB mB rfl mR mR ?_
  refine evl ?_
  repeat refine ⟨sd, ?_⟩
  refine k6 (sq fun _ k7 => sq fun _ k8 => rgn 0 ?_)
  repeat refine ⟨sd, ?_⟩
  refine k8 (cd rfl (fun h1 => ?_) (fun h1 => ?_))
  ·refine sq fun _ k9 => rgn 1 ?_
   repeat refine ⟨sd, ?_⟩
   refine k9 ?_
   refine wps_ent (e' := [(4, .u (.fz (L.map srow) none))]) (σ' := [.cells [.p 1 0], .cells [.p 6 0, .p 5 0, .u (.i .i64 0), .u (.i .i64 200), .u (.i .u64 0), .h 2, .h 3, .h 4], .map [], .map ((enc W).map sent), .map [], .cells [.p 6 0, .u (.i .i64 0), .u (.i .u64 0), .u (.i .i64 1)], .cells [.u (.i .i64 1000), .u (.i .i64 1000), .h 7, .h 8, .h 9], .map vm, .map gm, .row 116 1 pr]) ((entF 12 rfl (e' := [(4, .u (.fz (L.map srow) none))]) (by rw [← hdn]; simp only [go_sem, reduceIte, Nat.reduceEqDiff, Nat.reduceAdd, Nat.reduceLT, List.map_append, List.map_cons, List.map_nil, srow, nl0]) rfl).trans (entL hc0 [some 0, some 1, some 2, some 3, some 4, some 5, some 6, some 7, some 8, some 9] rfl rfl mB mB)) ?_
   refine wps_ret ?_
   refine retL [some 0, some 1, some 2, some 3, some 4, some 5, some 6, some 7, some 8, some 9] rfl ⟨trivial, trivial⟩ rfl rfl ?_
   exact mT
  ·exact absurd h1 (by simp)
 ·obtain ⟨leaf, next, l⟩ := p
  simp only at q2 q4 q5 q8 hdn
  subst q2
  have hrd := hr id _ q1 q3
  have hcl := q3.cells_le
  have hbl := below_ok ⟨false, next, l⟩ none key q3.sort (by omega)
  have hch := child_ok k2 c2 q6 q7
  have hel := crow_at q4
  rw [q5] at hel
  obtain ⟨B, hB⟩ : ∃ B, below key l = B := ⟨_, rfl⟩
  simp only [pgA] at hrd hcl hbl hel
  rw [hB] at hbl q4 hel
  have hl0 : ((l.length : Int) == 0) = false := beq_eq_false_iff_ne.2 (by omega)
  refine rgn 1 ?_
  repeat refine ⟨sd, ?_⟩
  refine callT_at [0, 1, 2, 3, 4, 5, 6, 7, 8, 9] [_, _, _, _, _, _, _, _, _, _] hrd rfl rfl ⟨rfl, rfl, rfl, rfl, rfl, rfl, rfl, rfl, rfl, rfl, trivial⟩ mB mB rfl mR mR ?_
  refine evl ?_
  repeat refine ⟨sd, ?_⟩
  refine k6 (sq fun _ k10 => sq fun _ k11 => rg 0 ?_)
  refine evx hl0 ?_
  repeat refine ⟨sd, ?_⟩
  refine k11 (cd rfl (fun h1 => ?_) (fun h1 => ?_))
  ·exact absurd h1 (by simp)
  ·refine wps_skip (k10 (sq fun _ k12 => rgn 0 ?_))
   repeat refine ⟨sd, ?_⟩
   refine callT_at [] [] hbl rfl rfl trivial mB mB rfl mR mR ?_
   refine evl ?_
   repeat refine ⟨sd, ?_⟩
   refine k12 (sq fun _ k13 => rgn 1 ?_)
   repeat refine ⟨sd, ?_⟩
   refine k13 (rg 0 ?_)
   refine evx hel ?_
   repeat refine ⟨sd, ?_⟩
   refine callT_at [] [] hch rfl rfl trivial mB mB rfl mR mR ?_
   refine evx hel ?_
   repeat refine ⟨sd, ?_⟩
   refine k5 ?_
   exact hKL _ _ l2.length _ ([.cells [.p 1 0], .cells [.p 6 0, .p 5 0, .u (.i .i64 0), .u (.i .i64 200), .u (.i .u64 0), .h 2, .h 3, .h 4], .map [], .map ((enc W).map sent), .map [], .cells [.p 6 0, .u (.i .i64 0), .u (.i .u64 0), .u (.i .i64 1)], .cells [.u (.i .i64 1000), .u (.i .i64 1000), .h 7, .h 8, .h 9], .map vm, .map gm, .row 116 1 pr] ++ [.row 190 5 ((dn ++ [Stp.mk id B (Pg.mk false next l)]).map srow)]) (entL hc0 [some 0, some 1, some 2, some 3, some 4, some 5, some 6, some 7, some 8, some 9, some 12] rfl rfl mB (by simp only [go_sem, reduceIte, Nat.reduceEqDiff, Nat.reduceAdd, Nat.reduceLT, List.map_append, List.map_cons, List.map_nil, srow, List.cons_append, List.nil_append])) ⟨c2, dn ++ [Stp.mk id B (Pg.mk false next l)], l2, rfl, q8, by rw [← hdn, hB]; simp, rfl, rfl⟩ (by simp)
end Go.Proofs.YtefipnajpabfgaaGreatDoor

namespace Go.Proofs.YtefipnajpabfgaaGreatDoor
open Go.Nm Go.RowKit Go.Shelf Go.Lib

/-! ### slices.Insert of cells: what it does in memory -/
theorem run_copy2 {P : Program} (w : World) (dT sT ty elem : TypeId) (i0 : TypeInfo) (b o dLen dCap : Nat) (a : Addr) (sLen sCap m : Nat) (cs : List Value)
  (hu : P.underlying dT = some (.slice elem)) (hi : P.info? elem = some i0) (hs : i0.size = 2) (hm : m = Nat.min sLen dLen) (hn : cs.length = m * 2)
  (hsrc : ∀ (j : Nat) v, cs[j]? = some v → w.cell? (a.add j) = some v) (hc : ∀ j, j < cs.length → (w.cell? ⟨b, o + j, none⟩).isSome = true) (hf : ∀ j, j < cs.length → w.frozen? ⟨b, o + j, none⟩ = false) (h1 : ∀ v ∈ cs, v.oneCell' = true) :
  (Builtin.copy_ #[dT, sT] ty #[.slice (some ⟨b, o, none⟩) dLen dCap, .slice (some a) sLen sCap]).run P w = .ok (goInt m) (w.setCells b o cs) := by
 have hl := run_loadCells_list (P := P) w a cs hsrc
 have hst := run_storeCells_cells (P := P) b o cs 0 w (by simpa using hc) (by simpa using hf) h1
 rw [hn] at hl
 simp [Builtin.copy_, run_underlying hu, Builtin.lenOf, Builtin.firstCells, sizeOf, typeInfo, hi, hs, ← hm, hl, hst]

theorem wp_copyR {P : Program} (w : World) {o : Oper} {a : Act} {K : Act → World → Prop} {Q : Exit → Act → World → Prop} (d s : Operand) (t t' : TypeId)
  (ho : o.op = .call { callee := .builtin .copy, args := #[d, s], argTypes := #[t, t'] }) (v u : Value) (hd : a.eval d = v) (hs : a.eval s = u) {v' : Value} {w' : World}
  (hr : (Builtin.copy_ #[t, t'] o.type #[v, u]).run P w = .ok v' w') (h : K (a.put o.dst v') w') : o.wp P a w K Q := by
 unfold Oper.wp execOp
 simp only [ho, resolve, invoke, builtin, Sem.run_bind, Sem.run_pure, Result.andThen_ok, List.map_toArray, List.map_cons, List.map_nil, hd, hs, hr]
 exact h
theorem wpList_copyR {P : Program} (w : World) {ops : Array Oper} {rest : List Oper} {o : Oper} {a : Act} {Q : Exit → Act → World → Prop} (hgd : o.guard = none) (d s : Operand) (t t' : TypeId)
  (ho : o.op = .call { callee := .builtin .copy, args := #[d, s], argTypes := #[t, t'] }) (v u : Value) (hd : a.eval d = v) (hs : a.eval s = u) {v' : Value} {w' : World}
  (hr : (Builtin.copy_ #[t, t'] o.type #[v, u]).run P w = .ok v' w') (h : wpList P ops Q rest (a.put o.dst v') w') : wpList P ops Q (o :: rest) a w :=
 wpList_plain hgd fun _ hK => wp_copyR w d s t t' ho v u hd hs hr (hK _ _ h)
theorem step_copyR {P : Program} {ops : Array Oper} {o : Oper} {a : Act} {w : World} {K : Act → World → Prop} {Q : Exit → Act → World → Prop} {E : Prop}
  (hg : o.guard = none) (d x : Operand) (dT sT : TypeId) (hop : o.op = Op.call { callee := Callee.builtin Builtin.copy, args := #[d, x], argTypes := #[dT, sT] })
  (v u : Value) (hd : a.eval d = v) (hx : a.eval x = u) {v' : Value} {w' : World} (hr : (Builtin.copy_ #[dT, sT] o.type #[v, u]).run P w = .ok v' w') (hK : K (a.put o.dst v') w') :
  if Region.wanted o (yielded ops a.tmps) = true then Oper.wp P o a w K Q else E := by
 have hw : Region.wanted o (yielded ops a.tmps) = true := by simp [Region.wanted, hg]
 rw [if_pos hw]
 exact wp_copyR w d x dT sT hop v u hd hx hr hK
theorem some_setCells (b : Nat) (vs : List Value) (o : Nat) (w : World) (h : ∀ j, j < vs.length → (w.cell? ⟨b, o + j, none⟩).isSome = true) (k : Nat) (hk : (w.cell? ⟨b, k, none⟩).isSome = true) : ((w.setCells b o vs).cell? ⟨b, k, none⟩).isSome = true := by
 by_cases hin : o ≤ k ∧ k < o + vs.length
 ·have := World.cell?_setCells_in b vs o w h (k - o) (by omega)
  rw [show o + (k - o) = k by omega] at this
  rw [this]; rfl
 ·rw [World.cell?_setCells_out b vs o w ⟨b, k, none⟩ (fun _ _ => by show k < o ∨ o + vs.length ≤ k; omega)]
  exact hk

/-- the model's entry for slices.overlaps: two blocks, the second of which is plain memory that has cells -/
theorem run_apart {P : Program} (w : World) (tS tR e : TypeId) (ht : P.underlying tS = some (.slice e)) (size : Nat) (hz : ∀ w, (Go.sizeOf e).run P w = .ok size w)
  (a b : Addr) (la ca lb cb : Nat) (hne : a.block ≠ b.block) (tA tB : TypeId) (kA kB : Nat)
  (hsa : w.shape? a.block = some (tA, kA)) (hsb : w.shape? b.block = some (tB, kB)) (hkA : kA ≠ 0) (hkB : kB ≠ 0)
  (hfb : w.frozen? b = false) (hfe : w.frozen? { block := b.block, off := kB } = false) :
  (Extern.SlicesOverlaps.overlaps #[tS, tS] #[tR] #[.slice (some a) la ca, .slice (some b) lb cb]).run P w = .ok (.bool false) w := by
 have hnb : (a.block != b.block) = true := by simpa using hne
 have hnb' : (a.block == b.block) = false := by simpa using hne
 change Sem.run P (Bind.bind _ _) w = _
 by_cases h0 : la = 0 ∨ lb = 0 ∨ size = 0
 ·simp [run_underlying ht, hz, h0]
 ·cases kB with
  | zero => exact absurd rfl hkB
  | succ kB =>
   cases kA with
   | zero => exact absurd rfl hkA
   | succ kA =>
    cases hfa : w.frozen? a <;> cases hfae : w.frozen? { block := a.block, off := kA + 1 } <;>
     simp [run_underlying ht, hz, h0, hnb, hnb', frozen, noView, viewAt, mayBeOne, stringish, shape, Sem.run, hsa, hsb, hfb, hfe, hfa, hfae]

theorem ins_shift (b n c i vb voff vc : Nat) (cs vs : List Value) (w : World) (hi : i < n) (hroom : n + 1 ≤ c) (hc63 : c ≤ 9223372036854775807) (hvb : vb ≠ b)
  (hcl : cs.length = n * 2) (hvl : vs.length = 2)
  (hcs : ∀ (j : Nat) v, cs[j]? = some v → w.cell? ⟨b, j, none⟩ = some v) (hsp : ∀ j, j < (n + 1) * 2 → (w.cell? ⟨b, j, none⟩).isSome = true) (hfz : ∀ j, w.frozen? ⟨b, j, none⟩ = false)
  (hvs : ∀ (j : Nat) v, vs[j]? = some v → w.cell? ⟨vb, voff + j, none⟩ = some v) (h1c : ∀ v ∈ cs, v.oneCell' = true) (h1v : ∀ v ∈ vs, v.oneCell' = true)
  (tA tB : TypeId) (kA kB : Nat) (hsa : w.shape? vb = some (tA, kA)) (hkA : kA ≠ 0) (hsb : w.shape? b = some (tB, kB)) (hkB : kB ≠ 0) :
  Calls Tryz.prog 152 #[.slice (some ⟨b, 0, none⟩) n c, .int .i64 i, .slice (some ⟨vb, voff, none⟩) 1 vc] w fun e w' =>
   e = .returned (.slice (some ⟨b, 0, none⟩) (n + 1) c) ∧ w' = (w.drew.setCells b ((i + 1) * 2) (cs.drop (i * 2))).setCells b (i * 2) vs := by
 obtain ⟨i0, d0, z0, hi1, hi2, hi3, hi4, hi5, hi6, hi7, hi8⟩ := tiOf_inv ty100
 have hsz2 : ∀ w, (Go.sizeOf 100).run Tryz.prog w = .ok 2 w := fun w => Nm.run_sizeOf ty100 w
 have hs2 : i0.size = 2 := hi5
 have u48 : Tryz.prog.underlying 48 = some (.slice 100) := Tryz.underlying48
 have hz2 : ¬ ((i : Int) = (n : Int)) := by omega
 have hov : ∀ lb cb, (callFunc 165 #[.slice (some ⟨vb, voff, none⟩) 1 vc, .slice (some ⟨b, (i + 1) * 2, none⟩) lb cb]).run Tryz.prog w = .ok (.value (.bool false)) w := fun lb cb => by
  rw [run_callFunc_extern Tryz.func165 (by kernel_rfl) (by kernel_rfl) (by kernel_rfl) (e := Extern.SlicesOverlaps.overlaps #[48, 48] #[4]) (by kernel_rfl),
   run_apart w 48 4 100 u48 2 hsz2 ⟨vb, voff, none⟩ ⟨b, (i + 1) * 2, none⟩ 1 vc lb cb hvb tA tB kA kB hsa hsb hkA hkB (hfz _) (hfz _)]
  rfl
 have hdl : (cs.drop (i * 2)).length = (n - i) * 2 := by rw [List.length_drop, hcl]; omega
 have mixed := mixed
 have hw1 : IntKind.i64.wrap ((i : Int) + 1) = (i : Int) + 1 := by rw [IntKind.wrap_i64]; omega
 have hw2 : IntKind.i64.wrap ((n : Int) + 1) = (n : Int) + 1 := by rw [IntKind.wrap_i64]; omega
 have hin : i ≤ n := by omega
 have hb1 : (0 : Int) ≤ (i : Int) + 1 := by omega
 have hb1n : (0 : Int) ≤ (n : Int) + 1 := by omega
 have hb3 : (i : Int) ≤ (n : Int) + 1 := by omega
 have htn : ((i : Int) + 1).toNat = i + 1 := by omega
 have htn2 : ((n : Int) + 1).toNat = n + 1 := by omega
 have hb2 : ¬ (c = i + 1) := by omega
 have hb4 : ¬ (c = i) := by omega
 have hcp1 : ∀ ty dc sc, (Builtin.copy_ #[48, 48] ty #[.slice (some ⟨b, (i + 1) * 2, none⟩) (n - i) dc, .slice (some ⟨b, i * 2, none⟩) (n + 1 - i) sc]).run Tryz.prog w.drew = .ok (goInt ((n - i : Nat) : Int)) (w.drew.setCells b ((i + 1) * 2) (cs.drop (i * 2))) := fun ty dc sc =>
  run_copy2 w.drew _ _ ty 100 i0 b ((i + 1) * 2) (n - i) dc ⟨b, i * 2, none⟩ (n + 1 - i) sc (n - i) (cs.drop (i * 2)) u48 hi1 hs2 (by simp only [Nat.min_def]; split <;> omega) hdl
   (fun j v hj => by rw [Addr.add_lit]; exact hcs (i * 2 + j) v (by rwa [List.getElem?_drop] at hj))
   (fun j hj => hsp _ (by omega)) (fun j hj => hfz _) (fun v hv => h1c v (List.mem_of_mem_drop hv))
 obtain ⟨W1, hW1⟩ : ∃ W1, W1 = w.drew.setCells b ((i + 1) * 2) (cs.drop (i * 2)) := ⟨_, rfl⟩
 have hsp1 : ∀ k, k < (n + 1) * 2 → (W1.cell? ⟨b, k, none⟩).isSome = true := fun k hk => by
  rw [hW1]
  exact some_setCells b (cs.drop (i * 2)) ((i + 1) * 2) w.drew (fun j hj => hsp _ (by omega)) k (hsp k hk)
 have hcp2 : ∀ (W : World), (∀ x, W.cell? x = W1.cell? x) → (∀ x, W.frozen? x = W1.frozen? x) → ∀ ty dc, (Builtin.copy_ #[48, 48] ty #[.slice (some ⟨b, i * 2, none⟩) (n + 1 - i) dc, .slice (some ⟨vb, voff, none⟩) 1 vc]).run Tryz.prog W = .ok (goInt ((1 : Nat) : Int)) (W.setCells b (i * 2) vs) := fun W hWc hWf ty dc =>
  run_copy2 W _ _ ty 100 i0 b (i * 2) (n + 1 - i) dc ⟨vb, voff, none⟩ 1 vc 1 vs u48 hi1 hs2 (by simp only [Nat.min_def]; split <;> omega) hvl
   (fun j v hj => by
    rw [Addr.add_lit, hWc, hW1, World.cell?_setCells_out b _ _ _ _ (fun h _ => absurd h hvb)]
    exact hvs j v hj)
   (fun j hj => by rw [hWc]; exact hsp1 _ (by omega)) (fun j hj => by rw [hWf, hW1, World.frozen?_setCells]; exact hfz _) h1v
 rw [← hW1] at hcp1
 go_enter Tryz.func152, Tryz.ntmps152
 go_wp2_with (simp only [hov])
 go_region_law_o (refine step_copyR rfl _ _ 48 48 rfl _ _ (by simp [Act.eval, Act.put]) (by simp [Act.eval, Act.put]) (hcp1 _ _ _) ?_)
 go_wp2_with (at_builtin; refine wpList_copyR _ rfl _ _ 48 48 rfl _ _ rfl rfl (hcp2 _ (fun _ => rfl) (fun _ => rfl) _ _) ?_)
 go_ret
 first | exact ⟨rfl, rfl⟩ | exact ⟨rfl, by rw [hW1]⟩
theorem ins_grow (b n c i vb voff vc : Nat) (cs vs : List Value) (w : World) (hi : i < n) (hnc : n ≤ c) (hroom : c < n + 1) (hbig : (n + 1) * 32 ≤ 140737488355328)
  (hcl : cs.length = n * 2) (hvl : vs.length = 2) (z0 : Value)
  (hcs : ∀ (j : Nat) v, cs[j]? = some v → w.cell? ⟨b, j, none⟩ = some v)
  (hvs : ∀ (j : Nat) v, vs[j]? = some v → w.cell? ⟨vb, voff + j, none⟩ = some v) (h1c : ∀ v ∈ cs, v.oneCell' = true) (h1v : ∀ v ∈ vs, v.oneCell' = true)
  (hz0 : ∃ i0, Tryz.prog.info? 100 = some i0 ∧ i0.zero = some z0) :
  Calls Tryz.prog 152 #[.slice (some ⟨b, 0, none⟩) n c, .int .i64 i, .slice (some ⟨vb, voff, none⟩) 1 vc] w fun e w' =>
   e = .returned (.slice (some ⟨w.heap.size, 0, none⟩) (n + 1) (grownCap w (n + 1) c 100)) ∧
   w' = (((w.alloc (.cells ((cs.take (i * 2)).toArray ++ Builtin.zeroCells z0.cells (n + 1 - i) ++ Builtin.zeroCells z0.cells (grownCap w (n + 1) c 100 - (n + 1))) 100)).drew.setCells w.heap.size (i * 2) vs).drew).setCells w.heap.size ((i + 1) * 2) (cs.drop (i * 2)) := by
 obtain ⟨i0, d0, z1, hi1, hi2, hi3, hi4, hi5, hi6, hi7, hi8⟩ := tiOf_inv ty100
 have hz1 : z1 = z0 := by
  obtain ⟨i1, q1, q2⟩ := hz0
  rw [hi1] at q1; cases q1
  rw [hi3] at q2; cases q2; rfl
 subst hz1
 have hzl : z1.cells.size = 2 := by
  have := (pvs_ok (Φ := fun _ => none) hi4).1
  simpa using this.symm
 have hs2 : i0.size = 2 := hi5
 have hby : i0.bytes = 32 := hi6
 have u48 : Tryz.prog.underlying 48 = some (.slice 100) := Tryz.underlying48
 have u3 : Tryz.prog.underlying 3 = some (.int .i64) := Tryz.underlying3
 have mixed := mixed
 have hz2 : ¬ ((i : Int) = (n : Int)) := by omega
 have hz3 : (c : Int) < (n : Int) + 1 := by omega
 have hbw : b < w.heap.size := block_lt_of_cell (hcs 0 _ (List.getElem?_eq_getElem (by omega)))
 have hvw : vb < w.heap.size := block_lt_of_cell (hvs 0 _ (List.getElem?_eq_getElem (by omega)))
 have hkk : (n : Int) + 1 - (i : Int) = ((n + 1 - i : Nat) : Int) := by omega
 have hik : i + (n + 1 - i) = n + 1 := by omega
 have hold : (Builtin.firstCells i0.size i (.slice (some ⟨b, 0, none⟩) i c)).run Tryz.prog w.drew = .ok (cs.take (i * 2)).toArray w.drew := by
  rw [hs2]
  exact run_firstCells_some w.drew 2 i ⟨b, 0, none⟩ i c (cs.take (i * 2)) (by rw [List.length_take]; omega) (fun j v hj => by
   rw [Addr.add_lit, Nat.zero_add]
   rw [List.getElem?_take] at hj
   split at hj
   ·exact hcs j v hj
   ·cases hj)
 have hrz : ∀ ty, (Builtin.append_ #[48, 3] ty #[.slice (some ⟨b, 0, none⟩) i c, .int .i64 ((n : Int) + 1 - (i : Int))]).run Tryz.prog w =
   .ok (.slice (some ⟨w.heap.size, 0, none⟩) (n + 1) (grownCap w (n + 1) c 100)) (w.drew.alloc (.cells ((cs.take (i * 2)).toArray ++ Builtin.zeroCells z1.cells (n + 1 - i) ++ Builtin.zeroCells z1.cells (grownCap w (n + 1) c 100 - (n + 1))) 100)) := fun ty => by
  have h := Lib.run_append_grow_zeros w 48 3 ty 100 i0 z1 .i64 .i64 u48 u3 hi1 hi3 (some ⟨b, 0, none⟩) i c (cs.take (i * 2)) hold (n + 1 - i) (by omega) (by omega) (by omega) (by omega) (by rw [hby]; omega) (by rw [hby, hik]; exact growslice_fits hroom hbig)
  rw [hik] at h
  rw [hkk]
  exact h
 obtain ⟨G, hG⟩ : ∃ G, G = grownCap w (n + 1) c 100 := ⟨_, rfl⟩
 obtain ⟨ROW, hROW⟩ : ∃ ROW : Array Value, ROW = (cs.take (i * 2)).toArray ++ Builtin.zeroCells z1.cells (n + 1 - i) ++ Builtin.zeroCells z1.cells (G - (n + 1)) := ⟨_, rfl⟩
 rw [← hG] at hrz ⊢
 rw [← hROW] at hrz ⊢
 have hRl : (n + 1) * 2 ≤ ROW.size := by
  rw [hROW, Array.size_append, Array.size_append, size_zeroCells, size_zeroCells, hzl, List.size_toArray, List.length_take, hcl]
  omega
 obtain ⟨W1, hW1⟩ : ∃ W1, W1 = w.drew.alloc (.cells ROW 100) := ⟨_, rfl⟩
 rw [← hW1] at hrz
 have hN : ∀ j, j < (n + 1) * 2 → (W1.cell? ⟨w.heap.size, j, none⟩).isSome = true := fun j hj => by
  rw [hW1, World.cell?_alloc_at (w := w.drew) ROW _ w.heap.size j rfl, Array.getElem?_eq_getElem (by omega)]; rfl
 have hNf : ∀ j, W1.frozen? ⟨w.heap.size, j, none⟩ = false := fun j => by rw [hW1]; exact World.frozen?_alloc_at (w := w.drew) ROW _ w.heap.size j rfl
 have hOb : ∀ j v, w.cell? ⟨b, j, none⟩ = some v → W1.cell? ⟨b, j, none⟩ = some v := fun j v h => by rw [hW1, World.cell?_alloc_past (w := w.drew) _ b j hbw]; exact h
 have hOv : ∀ j v, w.cell? ⟨vb, j, none⟩ = some v → W1.cell? ⟨vb, j, none⟩ = some v := fun j v h => by rw [hW1, World.cell?_alloc_past (w := w.drew) _ vb j hvw]; exact h
 have hcpA : ∀ (W : World), (∀ x, W.cell? x = W1.cell? x) → (∀ x, W.frozen? x = W1.frozen? x) → ∀ ty dc, (Builtin.copy_ #[48, 48] ty #[.slice (some ⟨w.heap.size, i * 2, none⟩) (n + 1 - i) dc, .slice (some ⟨vb, voff, none⟩) 1 vc]).run Tryz.prog W = .ok (goInt ((1 : Nat) : Int)) (W.setCells w.heap.size (i * 2) vs) := fun W hWc hWf ty dc =>
  run_copy2 W _ _ ty 100 i0 w.heap.size (i * 2) (n + 1 - i) dc ⟨vb, voff, none⟩ 1 vc 1 vs u48 hi1 hs2 (by simp only [Nat.min_def]; split <;> omega) hvl
   (fun j v hj => by rw [Addr.add_lit, hWc]; exact hOv _ v (hvs j v hj))
   (fun j hj => by rw [hWc]; exact hN _ (by omega)) (fun j hj => by rw [hWf]; exact hNf _) h1v
 have hGn : n + 1 ≤ G := by rw [hG]; exact grownCap_ge w _ _ _
 have hG63 : G ≤ 9223372036854775807 := by
  have := grownCap_le_maxLen w (n + 1) c 100 (by unfold maxLen; omega)
  rw [← hG] at this
  unfold maxLen at this
  omega
 have hGi : ¬ (G = i) := by omega
 have hGim : ¬ (G = i + 1) := by omega
 have hci : ¬ (c = i) := by omega
 have hbN : b ≠ w.heap.size := by omega
 have hdl : (cs.drop (i * 2)).length = (n - i) * 2 := by rw [List.length_drop, hcl]; omega
 have hcpB : ∀ (W : World), (∀ x, W.cell? x = (W1.setCells w.heap.size (i * 2) vs).cell? x) → (∀ x, W.frozen? x = (W1.setCells w.heap.size (i * 2) vs).frozen? x) → ∀ ty dc sc, (Builtin.copy_ #[48, 48] ty #[.slice (some ⟨w.heap.size, (i + 1) * 2, none⟩) (n - i) dc, .slice (some ⟨b, i * 2, none⟩) (n - i) sc]).run Tryz.prog W = .ok (goInt ((n - i : Nat) : Int)) (W.setCells w.heap.size ((i + 1) * 2) (cs.drop (i * 2))) := fun W hWc hWf ty dc sc =>
  run_copy2 W _ _ ty 100 i0 w.heap.size ((i + 1) * 2) (n - i) dc ⟨b, i * 2, none⟩ (n - i) sc (n - i) (cs.drop (i * 2)) u48 hi1 hs2 (by simp only [Nat.min_def]; split <;> omega) hdl
   (fun j v hj => by
    rw [Addr.add_lit, hWc, World.cell?_setCells_out _ _ _ _ _ (fun h _ => absurd h hbN)]
    exact hOb _ v (hcs (i * 2 + j) v (by rwa [List.getElem?_drop] at hj)))
   (fun j hj => by rw [hWc]; exact some_setCells w.heap.size vs (i * 2) W1 (fun t ht => hN _ (by omega)) _ (hN _ (by omega)))
   (fun j hj => by rw [hWf, World.frozen?_setCells]; exact hNf _) (fun v hv => h1c v (List.mem_of_mem_drop hv))
 subst hW1
 have hE1 : ∀ x, ((w.alloc (.cells ROW 100)).drew).cell? x = (w.drew.alloc (.cells ROW 100)).cell? x := fun x => rfl
 have hE2 : ∀ x, ((w.alloc (.cells ROW 100)).drew).frozen? x = (w.drew.alloc (.cells ROW 100)).frozen? x := fun x => rfl
 have hF1 : ∀ x, (((w.alloc (.cells ROW 100)).drew.setCells w.heap.size (i * 2) vs).drew).cell? x = ((w.drew.alloc (.cells ROW 100)).setCells w.heap.size (i * 2) vs).cell? x := fun x => rfl
 have hF2 : ∀ x, (((w.alloc (.cells ROW 100)).drew.setCells w.heap.size (i * 2) vs).drew).frozen? x = ((w.drew.alloc (.cells ROW 100)).setCells w.heap.size (i * 2) vs).frozen? x := fun x => rfl
 have hw1 : IntKind.i64.wrap ((i : Int) + 1) = (i : Int) + 1 := by rw [IntKind.wrap_i64]; omega
 have hw2 : IntKind.i64.wrap ((n : Int) + 1) = (n : Int) + 1 := by rw [IntKind.wrap_i64]; omega
 have hw3 : IntKind.i64.wrap ((n : Int) + 1 - (i : Int)) = (n : Int) + 1 - (i : Int) := by rw [IntKind.wrap_i64]; omega
 have hb1 : (0 : Int) ≤ (i : Int) + 1 := by omega
 have hin : i ≤ n := by omega
 have htn : ((i : Int) + 1).toNat = i + 1 := by omega
 have hb3 : (i : Int) ≤ (n : Int) := by omega
 have hb4 : (i : Int) ≤ (n : Int) + 1 := by omega
 clear hkk hik hold hROW hG hRl hz0
 go_enter Tryz.func152, Tryz.ntmps152
 go_wp2_with (first
  | (at_builtin; refine Lib.wpList_append_run _ rfl _ _ _ _ rfl _ _ rfl rfl _ _ (hrz _) ?_)
  | (at_builtin; refine wpList_copyR _ rfl _ _ 48 48 rfl _ _ rfl rfl (hcpA _ hE1 hE2 _ _) ?_)
  | (at_builtin; refine wpList_copyR _ rfl _ _ 48 48 rfl _ _ rfl rfl (hcpB _ (fun _ => rfl) (fun _ => rfl) _ _ _) ?_))
 go_region_law_o (refine step_copyR rfl _ _ 48 48 rfl (.slice (some ⟨w.heap.size, (i + 1) * 2, none⟩) (n - i) (G - (i + 1))) (.slice (some ⟨b, i * 2, none⟩) (n - i) (c - i)) (by simp [Act.eval, Act.put]) (by simp [Act.eval, Act.put]) (hcpB _ hF1 hF2 3 (G - (i + 1)) (c - i)) ?_)
 go_wp2
 go_ret
 exact ⟨rfl, rfl⟩
end Go.Proofs.YtefipnajpabfgaaGreatDoor
