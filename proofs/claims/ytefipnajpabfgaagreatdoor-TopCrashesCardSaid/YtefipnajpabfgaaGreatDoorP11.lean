/- Part 11 of the proof: what functions of the program do, and plain facts on what they compute. -/
import Derived.Test.YtefipnajpabfgaaGreatDoorP9
import Derived.Test.YtefipnajpabfgaaGreatDoorP10
set_option linter.all false
set_option maxRecDepth 40000
set_option maxHeartbeats 16000000
set_option linter.unusedSimpArgs false
set_option linter.unusedVariables false
namespace Go.Proofs.YtefipnajpabfgaaGreatDoor
open Go.Nm

/-- pages 0 .. m-1 are there, and no others -/
def Cnt (W : PgM) (m : Nat) : Prop := ∀ i, (pget i W).isSome = decide (i < m)
theorem pget_pput (i k : Nat) (x : Pg) : ∀ W : PgM, pget i (pput k x W) = if i = k then some x else pget i W
 | [] => by simp [pput, pget]
 | e :: es => by
  simp only [pput]
  by_cases h : k = e.1
  ·rw [if_pos h]
   by_cases h2 : i = k
   ·subst h2; simp [pget]
   ·have h3 : ¬ i = e.1 := fun h3 => h2 (h3.trans h.symm)
    simp [pget, h2, h3]
  ·rw [if_neg h]
   simp only [pget, pget_pput i k x es]
   by_cases h2 : i = e.1
   ·have h3 : ¬ i = k := fun h3 => h (h3.symm.trans h2)
    rw [if_pos h2, if_neg h3, if_pos h2]
   ·rw [if_neg h2, if_neg h2]
theorem Cnt.put {W : PgM} {m : Nat} (h : Cnt W m) {k : Nat} (x : Pg) (hk : k < m) : Cnt (pput k x W) m := fun i => by
 rw [pget_pput]
 by_cases hi : i = k
 ·rw [if_pos hi]; simp; omega
 ·rw [if_neg hi]; exact h i
theorem Cnt.new {W : PgM} {m : Nat} (h : Cnt W m) (x : Pg) : Cnt (pput m x W) (m + 1) := fun i => by
 rw [pget_pput]
 by_cases hi : i = m
 ·rw [if_pos hi]; simp; omega
 ·rw [if_neg hi, h i]
  by_cases h2 : i < m
  ·rw [decide_eq_true h2, decide_eq_true (by omega)]
  ·rw [decide_eq_false h2, decide_eq_false (by omega)]
theorem Cnt.none {W : PgM} {m : Nat} (h : Cnt W m) : pget m W = none := by
 have := h m
 cases hg : pget m W with
 | none => rfl
 | some x => rw [hg] at this; simp at this
theorem Cnt.some {W : PgM} {m : Nat} (h : Cnt W m) (i : Nat) (hi : i < m) : (pget i W).isSome = true := by rw [h i]; simpa using hi

def hk (l : List Cel) : List UInt8 := (l.getD 0 ([], [])).1
def LP (x : Pg) (m : Nat) : Pg := ⟨x.leaf, if x.leaf then m else x.next, x.cells.take (splitK x.cells)⟩
def RP (x : Pg) : Pg := ⟨x.leaf, if x.leaf then x.next else 0, x.cells.drop (splitK x.cells)⟩
def rootP (a b : Nat) (k : List UInt8) : Pg := ⟨false, 0, [([], vput a), (k, vput b)]⟩

theorem root_ok (W : PgM) (vm gm : List (PV × PV)) (pr : List (List PV)) (m : Nat) (leaf : Bool) (n1 n2 : Nat) (X Y : List Cel) (q1 q2 : Option Nat) (hC : Cnt W m) (hm : m + 1 < 90) (hY : 0 < Y.length) (h0 : 0 < m)
  (hR : PgOK ⟨leaf, n2, Y⟩) (hL : PgOK ⟨leaf, if leaf then m else n1, X⟩) (hP : PgOK (rootP (m + 1) m (hk Y))) : CallT Tryz.prog 154 [.p 0 0, pgA ⟨leaf, n1, X⟩ q1, pgA ⟨leaf, n2, Y⟩ q2] (tre W vm gm pr)
  fun r σ => r = .tup [] ∧ σ = tre (pput 0 (rootP (m + 1) m (hk Y)) (pput (m + 1) ⟨leaf, if leaf then m else n1, X⟩ (pput m ⟨leaf, n2, Y⟩ W))) vm gm pr := by
 have ha1 := talloc_ok W vm gm pr m ⟨leaf, n2, Y⟩ q2 (by omega) hR (fun i hi => hC.some i hi) hC.none
 obtain ⟨W1, hW1⟩ : ∃ W1, pput m ⟨leaf, n2, Y⟩ W = W1 := ⟨_, rfl⟩
 have hC1 : Cnt W1 (m + 1) := by rw [← hW1]; exact hC.new _
 rw [hW1] at ha1 ⊢
 have ha2 := talloc_ok W1 vm gm pr (m + 1) ⟨leaf, if leaf then m else n1, X⟩ q1 (by omega) hL (fun i hi => hC1.some i hi) hC1.none
 obtain ⟨W2, hW2⟩ : ∃ W2, pput (m + 1) ⟨leaf, if leaf then m else n1, X⟩ W1 = W2 := ⟨_, rfl⟩
 rw [hW2] at ha2 ⊢
 have hl1 := lead_ok [] (m + 1) (by omega)
 have hl2 := lead_ok (hk Y) m (by omega)
 have hw := twrite_ok W2 vm gm pr 0 (rootP (m + 1) m (hk Y)) (some 2) (by omega) hP
 have hel := crow_at hY
 have hhk : (Y.getD 0 ([], [])).1 = hk Y := rfl
 rw [hhk] at hel
 unfold rootP at hw ⊢
 unfold tre dskC pgA at *
 simp only [List.map_cons, List.map_nil, crow, nl0] at hw
 simp only at *
 refine cof 31 [] Tryz.func154 Tryz.ntmps154 fun c hnt hc0 => ?_
 refine sq fun _ k1 => rgn 2 ?_
 repeat refine ⟨sd, ?_⟩
 refine k1 (sq fun _ k2 => rgn 0 ?_)
 repeat refine ⟨sd, ?_⟩
 refine callT_at [0, 1, 2, 3, 4, 5, 6, 7, 8, 9] [_, _, _, _, _, _, _, _, _, _] ha1 rfl rfl ⟨rfl, rfl, rfl, rfl, rfl, rfl, rfl, rfl, rfl, rfl, trivial⟩ mB mB rfl mR mR ?_
 refine evl ?_
 repeat refine ⟨sd, ?_⟩
 refine k2 (sq fun _ k3 => sq fun _ k4 => rgn 0 ?_)
 repeat refine ⟨sd, ?_⟩
 refine k4 (cd rfl (fun h1 => ?_) (fun h1 => ?_))
 ·subst h1
  simp only [reduceIte] at ha2
  refine rgn 0 ?_
  repeat refine ⟨sd, ?_⟩
  refine k3 (sq fun _ k5 => rgn 0 ?_)
  repeat refine ⟨sd, ?_⟩
  refine callT_at [0, 1, 2, 3, 4, 5, 6, 7, 8, 9] [_, _, _, _, _, _, _, _, _, _] ha2 rfl rfl ⟨rfl, rfl, rfl, rfl, rfl, rfl, rfl, rfl, rfl, rfl, trivial⟩ mB mB rfl mR mR ?_
  refine evl ?_
  repeat refine ⟨sd, ?_⟩
  refine k5 (dr 0 [0, 0, 2, 0, 8, 24, 56, 120, 0, 510, 1022, 2046, 4095] mixed ?_)
  refine evx hel ?_
  repeat refine ⟨sd, ?_⟩
  refine callE_at [] [] hl1 rfl rfl trivial mB mB rfl mR mR ?_
  refine evx hel ?_
  repeat refine ⟨sd, ?_⟩
  refine callE_at [] [] hl2 rfl rfl trivial mB mB rfl mR mR ?_
  refine evx hel ?_
  repeat refine ⟨sd, ?_⟩
  refine callE_at [0, 1, 2, 3, 4, 5, 6, 7, 8, 9] [_, _, _, _, _, _, _, _, _, _] hw rfl rfl ⟨rfl, rfl, rfl, rfl, rfl, rfl, rfl, rfl, rfl, rfl, trivial⟩ mB mB rfl mR mR ?_
  refine evx hel ?_
  repeat refine ⟨sd, ?_⟩
  refine retL [some 0, some 1, some 2, some 3, some 4, some 5, some 6, some 7, some 8, some 9] rfl trivial rfl rfl ?_
  exact mT
 ·subst h1
  simp only [Bool.false_eq_true, reduceIte] at ha2
  refine wps_skip (k3 (sq fun _ k6 => rgn 0 ?_))
  repeat refine ⟨sd, ?_⟩
  refine callT_at [0, 1, 2, 3, 4, 5, 6, 7, 8, 9] [_, _, _, _, _, _, _, _, _, _] ha2 rfl rfl ⟨rfl, rfl, rfl, rfl, rfl, rfl, rfl, rfl, rfl, rfl, trivial⟩ mB mB rfl mR mR ?_
  refine evl ?_
  repeat refine ⟨sd, ?_⟩
  refine k6 (dr 0 [0, 0, 2, 0, 8, 24, 56, 120, 0, 510, 1022, 2046, 4095] mixed ?_)
  refine evx hel ?_
  repeat refine ⟨sd, ?_⟩
  refine callE_at [] [] hl1 rfl rfl trivial mB mB rfl mR mR ?_
  refine evx hel ?_
  repeat refine ⟨sd, ?_⟩
  refine callE_at [] [] hl2 rfl rfl trivial mB mB rfl mR mR ?_
  refine evx hel ?_
  repeat refine ⟨sd, ?_⟩
  refine callE_at [0, 1, 2, 3, 4, 5, 6, 7, 8, 9] [_, _, _, _, _, _, _, _, _, _] hw rfl rfl ⟨rfl, rfl, rfl, rfl, rfl, rfl, rfl, rfl, rfl, rfl, trivial⟩ mB mB rfl mR mR ?_
  refine evx hel ?_
  repeat refine ⟨sd, ?_⟩
  refine retL [some 0, some 1, some 2, some 3, some 4, some 5, some 6, some 7, some 8, some 9] rfl trivial rfl rfl ?_
  exact mT

/-- what 'up' makes of the pages -/
inductive Up (W' : PgM) : PgM → Nat → List Stp → Nat → Pg → Prop
 | fit {W : PgM} {m id : Nat} {way : List Stp} {x : Pg} (h1 : PgOK x) (h2 : id < 90) (h3 : pput id x W = W') : Up W' W m way id x
 | root {W : PgM} {m : Nat} {way : List Stp} {x : Pg} (h1 : 2048 < (pageS x).length) (h2 : 2 ≤ x.cells.length) (h3 : (cellsS x.cells).length ≤ 100000) (h4 : x.next ≤ 256) (h5 : x.leaf = false → x.next = 0) (h6 : m + 1 < 90) (h7 : 0 < m) (h8 : PgOK (RP x)) (h9 : PgOK (LP x m)) (h10 : PgOK (rootP (m + 1) m (hk (RP x).cells)))
   (h11 : pput 0 (rootP (m + 1) m (hk (RP x).cells)) (pput (m + 1) (LP x m) (pput m (RP x) W)) = W') : Up W' W m way 0 x
 | step {W : PgM} {m id : Nat} {way : List Stp} {s : Stp} {x : Pg} (h1 : 2048 < (pageS x).length) (h2 : 2 ≤ x.cells.length) (h3 : (cellsS x.cells).length ≤ 100000) (h4 : x.next ≤ 256) (h5 : id ≠ 0) (h6 : id < m) (h7 : m < 90) (h8 : PgOK (RP x)) (h9 : PgOK (LP x m)) (h10 : PgOK s.pg) (h11 : (hk (RP x).cells).length ≤ 470)
   (h12 : Up W' (pput id (LP x m) (pput m (RP x) W)) (m + 1) way s.id ⟨s.pg.leaf, s.pg.next, putC (hk (RP x).cells, vput m) s.pg.cells⟩) : Up W' W m (way ++ [s]) id x

theorem Up.id_lt {W' W : PgM} {m id : Nat} {way : List Stp} {x : Pg} (h : Up W' W m way id x) : id < 90 := by
 cases h <;> omega

theorem srow_last (way : List Stp) (s : Stp) : ((way ++ [s]).map srow).getD way.length [] = [.i .i64 (s.id : Int), .i .i64 (s.at_ : Int), .b s.pg.leaf, .i .i64 (s.pg.next : Int), .fz (s.pg.cells.map crow) none] := by
 rw [List.map_append, List.getD_eq_getElem?_getD, List.getElem?_append_right (by simp)]
 simp [srow]

theorem up_ok (W' W : PgM) (vm gm : List (PV × PV)) (pr : List (List PV)) (m id : Nat) (way : List Stp) (x : Pg) (q q1 : Option Nat) (hC : Cnt W m) (hU : Up W' W m way id x) (hid : id < 1000) (hway : way.length ≤ 100) : CallT Tryz.prog 124 [.p 0 0, .u (.fz (way.map srow) q1), .u (.i .i64 (id : Int)), pgA x q] (tre W vm gm pr)
  fun r σ => r = .tup [] ∧ σ = tre W' vm gm pr := by
 unfold tre dskC pgA
 refine cof 73 [] Tryz.func124 Tryz.ntmps124 fun c hnt hc0 => ?_
 refine sq fun _ k1 => rgn 1 ?_
 repeat refine ⟨sd, ?_⟩
 refine k1 (sq fun _ k2 => bk fun _ k3 => ?_)
 refine wps_loop (fun k e σ => ∃ (W : PgM) (m id : Nat) (way : List Stp) (x : Pg) (q q1 : Option Nat), k = way.length ∧ Cnt W m ∧ Up W' W m way id x ∧ id < 1000 ∧ way.length ≤ 100 ∧ e = [(0, .p 0 0), (1, .u (.fz (way.map srow) q1)), (2, .u (.i .i64 (id : Int))), (7, .p 10 0)] ∧ σ = [.cells [.p 1 0], .cells [.p 6 0, .p 5 0, .u (.i .i64 0), .u (.i .i64 200), .u (.i .u64 0), .h 2, .h 3, .h 4], .map [], .map ((enc W).map sent), .map [], .cells [.p 6 0, .u (.i .i64 0), .u (.i .u64 0), .u (.i .i64 1)], .cells [.u (.i .i64 1000), .u (.i .i64 1000), .h 7, .h 8, .h 9], .map vm, .map gm, .row 116 1 pr] ++ [.cells [.u (.b x.leaf), .u (.i .i64 (x.next : Int)), .u (.fz (x.cells.map crow) q)]])
  (e0 := [(0, .p 0 0), (1, .u (.fz (way.map srow) q1)), (2, .u (.i .i64 (id : Int))), (7, .p 10 0)]) (σ0 := [.cells [.p 1 0], .cells [.p 6 0, .p 5 0, .u (.i .i64 0), .u (.i .i64 200), .u (.i .u64 0), .h 2, .h 3, .h 4], .map [], .map ((enc W).map sent), .map [], .cells [.p 6 0, .u (.i .i64 0), .u (.i .u64 0), .u (.i .i64 1)], .cells [.u (.i .i64 1000), .u (.i .i64 1000), .h 7, .h 8, .h 9], .map vm, .map gm, .row 116 1 pr] ++ [.cells [.u (.b x.leaf), .u (.i .i64 (x.next : Int)), .u (.fz (x.cells.map crow) q)]]) (entL hc0 [some 0, some 1, some 2, some 3, some 4, some 5, some 6, some 7, some 8, some 9, some 10] rfl rfl mB mB) ⟨W, m, id, way, x, q, q1, rfl, hC, hU, hid, hway, rfl, rfl⟩ fun KL k e1 σ1 hI hKL => ?_
 obtain ⟨W, m, id, way, ⟨leaf, next, l⟩, q, q1, rfl, hC, hU, hid, hway, rfl, rfl⟩ := hI
 simp only [List.cons_append, List.nil_append]
 refine sq fun _ k4 => sq fun _ k5 => ?_
 rcases hU with ⟨g1, g2, g3⟩ | ⟨g1, g2, g3, g4, g5, g6, g7, g8, g9, g10, g11⟩ | @⟨_, _, _, way, s, _, g1, g2, g3, g4, g5, g6, g7, g8, g9, g10, g11, g12⟩
 rotate_left
 cases leaf
 rotate_left
 rotate_left
 cases leaf
 ·simp only at g2 g3 g4
  have hsz := psize_ok ⟨false, next, l⟩ q (by simp only; omega) (by simp only; omega)
  have hgt : decide ((2048 : Int) < ((pageS ⟨false, next, l⟩).length : Int)) = true := decide_eq_true (by omega)
  have hsp := pgsplit_ok ⟨false, next, l⟩ q g2 g3
  have hKl : splitK l < l.length := splitF_le (by omega)
  obtain ⟨Y, hY⟩ : ∃ Y, l.drop (splitK l) = Y := ⟨_, rfl⟩
  obtain ⟨X, hX⟩ : ∃ X, l.take (splitK l) = X := ⟨_, rfl⟩
  have hYl : 0 < Y.length := by rw [← hY]; simp; omega
  simp only [RP, LP, Bool.false_eq_true, reduceIte, hY, hX] at g8 g9 g11 g12
  simp only [hY, hX] at hsp
  have hal := talloc_ok W vm gm pr m ⟨false, 0, Y⟩ (some Y.length) g7 g8 (fun i hi => hC.some i hi) hC.none
  obtain ⟨W1, hW1⟩ : ∃ W1, pput m ⟨false, 0, Y⟩ W = W1 := ⟨_, rfl⟩
  have hC1 : Cnt W1 (m + 1) := by rw [← hW1]; exact hC.new _
  rw [hW1] at hal g12
  have hwr := twrite_ok W1 vm gm pr id ⟨false, next, X⟩ (some X.length) (by omega) g9
  have hC2 := hC1.put ⟨false, next, X⟩ (k := id) (by omega)
  simp only [tre, dskC, pgA, nl0] at hsz hsp hal hwr
  refine rg 0 ?_
  refine evx hgt ?_
  repeat refine ⟨sd, ?_⟩
  refine callT_at [] [] hsz rfl rfl trivial mB mB rfl mR mR ?_
  refine evx hgt ?_
  repeat refine ⟨sd, ?_⟩
  refine k5 (cd rfl (fun h1 => ?_) (fun h1 => ?_))
  ·refine wps_skip (k4 (bk fun _ k6 => sq fun _ k7 => rgn 2 ?_))
   repeat refine ⟨sd, ?_⟩
   refine callT_at [] [] hsp rfl rfl trivial mB mB rfl mR mR ?_
   refine evl ?_
   repeat refine ⟨sd, ?_⟩
   refine k7 (sq fun _ k8 => sq fun _ k9 => ?_)
   have hi0 : ((id : Int) == 0) = false := beq_eq_false_iff_ne.2 (by omega)
   refine rg 0 ?_
   refine evx hi0 ?_
   repeat refine ⟨sd, ?_⟩
   refine k9 (cd rfl (fun h2 => ?_) (fun h2 => ?_))
   ·exact absurd h2 (by simp)
   ·refine wps_skip (k8 (sq fun _ k10 => sq fun _ k11 => ?_))
    refine wps_keep [0, 1, 2, 7, 8, 9] mK ?_
    refine rgn 0 ?_
    repeat refine ⟨sd, ?_⟩
    refine k11 (cd rfl (fun h3 => ?_) (fun h3 => ?_))
    ·refine rgn 0 ?_
     repeat refine ⟨sd, ?_⟩
     refine k10 (sq fun _ k12 => rgn 0 ?_)
     repeat refine ⟨sd, ?_⟩
     refine callT_at [0, 1, 2, 3, 4, 5, 6, 7, 8, 9] [_, _, _, _, _, _, _, _, _, _] hal rfl rfl ⟨rfl, rfl, rfl, rfl, rfl, rfl, rfl, rfl, rfl, rfl, trivial⟩ mB mB rfl mR mR ?_
     refine evl ?_
     repeat refine ⟨sd, ?_⟩
     refine k12 (sq fun _ k13 => sq fun _ k14 => ?_)
     refine wps_keep [0, 1, 2, 7, 8, 9, 11] mK ?_
     refine rgn 0 ?_
     repeat refine ⟨sd, ?_⟩
     refine k14 (cd rfl (fun h4 => ?_) (fun h4 => ?_))
     ·exact absurd h4 (by simp)
     ·refine wps_skip (k13 (sq fun _ k15 => rgn 0 ?_))
      repeat refine ⟨sd, ?_⟩
      refine callT_at [0, 1, 2, 3, 4, 5, 6, 7, 8, 9] [_, _, _, _, _, _, _, _, _, _] hwr rfl rfl ⟨rfl, rfl, rfl, rfl, rfl, rfl, rfl, rfl, rfl, rfl, trivial⟩ mB mB rfl mR mR ?_
      refine evl ?_
      repeat refine ⟨sd, ?_⟩
      refine k15 (sq fun _ k16 => ?_)
      refine wps_keep [0, 1, 7, 9, 11] mK ?_
      have hwl2 : (way ++ [s]).length = way.length + 1 := by simp
      have hwl : IntKind.i64.wrap (((way ++ [s]).length : Int) - 1) = (way.length : Int) := by rw [hwl2]; exact (wrap64 (by omega) (by omega)).trans (by omega)
      have hsl := srow_last way s
      have htw : ((way ++ [s]).map srow).take way.length = way.map srow := by rw [List.map_append, List.take_left' (by simp)]
      have hsr := srow_ok1 (way ++ [s])
      have hscl := g10.cells_le
      have hv10 := vput_10 m (by omega)
      have hpp := pgput_ok s.pg (hk Y, vput m) none g10.sort (by omega) (by simp only; omega)
      have hle := lead_ok (hk Y) m (by omega)
      have hel := crow_at hYl
      rw [show (Y.getD 0 ([], [])).1 = hk Y from rfl] at hel
      obtain ⟨X', hX'⟩ : ∃ X', putC (hk Y, vput m) s.pg.cells = X' := ⟨_, rfl⟩
      rw [hX'] at hpp g12
      simp only [pgA] at hpp
      refine rg 1 ?_
      refine evx2 hwl hsl ?_
      repeat refine ⟨sd, ?_⟩
      refine k16 (sq fun _ k17 => rg 0 ?_)
      refine evx2 hwl htw ?_
      repeat refine ⟨sd, ?_⟩
      refine k17 (sq fun _ k18 => ?_)
      refine wps_keep [0, 1, 7, 9, 11, 12] mK ?_
      refine rgn 0 ?_
      repeat refine ⟨sd, ?_⟩
      refine k18 (dr 0 [0, 1, 0, 4, 12, 28, 60, 0, 252, 511, 1023, 2047, 2047, 4095] mixed ?_)
      refine evx hel ?_
      repeat refine ⟨sd, ?_⟩
      refine callE_at [] [] hle rfl rfl trivial mB mB rfl mR mR ?_
      refine evx hel ?_
      repeat refine ⟨sd, ?_⟩
      refine callE_at [] [] hpp rfl rfl trivial mB mB rfl mR mR ?_
      refine evx hel ?_
      repeat refine ⟨sd, ?_⟩
      refine k6 ?_
      exact hKL _ _ way.length _ ([.cells [.p 1 0], .cells [.p 6 0, .p 5 0, .u (.i .i64 0), .u (.i .i64 200), .u (.i .u64 0), .h 2, .h 3, .h 4], .map [], .map ((enc (pput id ⟨false, next, X⟩ W1)).map sent), .map [], .cells [.p 6 0, .u (.i .i64 0), .u (.i .u64 0), .u (.i .i64 1)], .cells [.u (.i .i64 1000), .u (.i .i64 1000), .h 7, .h 8, .h 9], .map vm, .map gm, .row 116 1 pr] ++ [.cells [.u (.b s.pg.leaf), .u (.i .i64 (s.pg.next : Int)), .u (.fz (X'.map crow) (some X'.length))]]) (entL hc0 [some 0, some 1, some 2, some 3, some 4, some 5, some 6, some 7, some 8, some 9, some 10] rfl rfl mB mB) ⟨_, m + 1, s.id, way, ⟨s.pg.leaf, s.pg.next, X'⟩, some X'.length, Option.map (fun x => x) q1, rfl, hC2, g12, by have := g12.id_lt; omega, by omega, rfl, rfl⟩ (by simp)
    ·exact absurd h3 (by simp)
  ·exact absurd h1 (by simp)
 ·simp only at g2 g3 g4
  have hsz := psize_ok ⟨true, next, l⟩ q (by simp only; omega) (by simp only; omega)
  have hgt : decide ((2048 : Int) < ((pageS ⟨true, next, l⟩).length : Int)) = true := decide_eq_true (by omega)
  have hsp := pgsplit_ok ⟨true, next, l⟩ q g2 g3
  have hKl : splitK l < l.length := splitF_le (by omega)
  obtain ⟨Y, hY⟩ : ∃ Y, l.drop (splitK l) = Y := ⟨_, rfl⟩
  obtain ⟨X, hX⟩ : ∃ X, l.take (splitK l) = X := ⟨_, rfl⟩
  have hYl : 0 < Y.length := by rw [← hY]; simp; omega
  simp only [RP, LP, reduceIte, hY, hX] at g8 g9 g11 g12
  simp only [hY, hX] at hsp
  have hal := talloc_ok W vm gm pr m ⟨true, next, Y⟩ (some Y.length) g7 g8 (fun i hi => hC.some i hi) hC.none
  obtain ⟨W1, hW1⟩ : ∃ W1, pput m ⟨true, next, Y⟩ W = W1 := ⟨_, rfl⟩
  have hC1 : Cnt W1 (m + 1) := by rw [← hW1]; exact hC.new _
  rw [hW1] at hal g12
  have hwr := twrite_ok W1 vm gm pr id ⟨true, m, X⟩ (some X.length) (by omega) g9
  have hC2 := hC1.put ⟨true, m, X⟩ (k := id) (by omega)
  simp only [tre, dskC, pgA] at hsz hsp hal hwr
  refine rg 0 ?_
  refine evx hgt ?_
  repeat refine ⟨sd, ?_⟩
  refine callT_at [] [] hsz rfl rfl trivial mB mB rfl mR mR ?_
  refine evx hgt ?_
  repeat refine ⟨sd, ?_⟩
  refine k5 (cd rfl (fun h1 => ?_) (fun h1 => ?_))
  ·refine wps_skip (k4 (bk fun _ k19 => sq fun _ k20 => rgn 2 ?_))
   repeat refine ⟨sd, ?_⟩
   refine callT_at [] [] hsp rfl rfl trivial mB mB rfl mR mR ?_
   refine evl ?_
   repeat refine ⟨sd, ?_⟩
   refine k20 (sq fun _ k21 => sq fun _ k22 => ?_)
   have hi0 : ((id : Int) == 0) = false := beq_eq_false_iff_ne.2 (by omega)
   refine rg 0 ?_
   refine evx hi0 ?_
   repeat refine ⟨sd, ?_⟩
   refine k22 (cd rfl (fun h2 => ?_) (fun h2 => ?_))
   ·exact absurd h2 (by simp)
   ·refine wps_skip (k21 (sq fun _ k23 => sq fun _ k24 => ?_))
    refine wps_keep [0, 1, 2, 7, 8, 9] mK ?_
    refine rgn 0 ?_
    repeat refine ⟨sd, ?_⟩
    refine k24 (cd rfl (fun h3 => ?_) (fun h3 => ?_))
    ·exact absurd h3 (by simp)
    ·refine wps_skip (k23 (sq fun _ k25 => rgn 0 ?_))
     repeat refine ⟨sd, ?_⟩
     refine callT_at [0, 1, 2, 3, 4, 5, 6, 7, 8, 9] [_, _, _, _, _, _, _, _, _, _] hal rfl rfl ⟨rfl, rfl, rfl, rfl, rfl, rfl, rfl, rfl, rfl, rfl, trivial⟩ mB mB rfl mR mR ?_
     refine evl ?_
     repeat refine ⟨sd, ?_⟩
     refine k25 (sq fun _ k26 => sq fun _ k27 => ?_)
     refine wps_keep [0, 1, 2, 7, 8, 9, 11] mK ?_
     refine rgn 0 ?_
     repeat refine ⟨sd, ?_⟩
     refine k27 (cd rfl (fun h4 => ?_) (fun h4 => ?_))
     ·refine rgn 0 ?_
      repeat refine ⟨sd, ?_⟩
      refine k26 (sq fun _ k28 => rgn 0 ?_)
      repeat refine ⟨sd, ?_⟩
      refine callT_at [0, 1, 2, 3, 4, 5, 6, 7, 8, 9] [_, _, _, _, _, _, _, _, _, _] hwr rfl rfl ⟨rfl, rfl, rfl, rfl, rfl, rfl, rfl, rfl, rfl, rfl, trivial⟩ mB mB rfl mR mR ?_
      refine evl ?_
      repeat refine ⟨sd, ?_⟩
      refine k28 (sq fun _ k29 => ?_)
      refine wps_keep [0, 1, 7, 9, 11] mK ?_
      have hwl2 : (way ++ [s]).length = way.length + 1 := by simp
      have hwl : IntKind.i64.wrap (((way ++ [s]).length : Int) - 1) = (way.length : Int) := by rw [hwl2]; exact (wrap64 (by omega) (by omega)).trans (by omega)
      have hsl := srow_last way s
      have htw : ((way ++ [s]).map srow).take way.length = way.map srow := by rw [List.map_append, List.take_left' (by simp)]
      have hsr := srow_ok1 (way ++ [s])
      have hscl := g10.cells_le
      have hv10 := vput_10 m (by omega)
      have hpp := pgput_ok s.pg (hk Y, vput m) none g10.sort (by omega) (by simp only; omega)
      have hle := lead_ok (hk Y) m (by omega)
      have hel := crow_at hYl
      rw [show (Y.getD 0 ([], [])).1 = hk Y from rfl] at hel
      obtain ⟨X', hX'⟩ : ∃ X', putC (hk Y, vput m) s.pg.cells = X' := ⟨_, rfl⟩
      rw [hX'] at hpp g12
      simp only [pgA] at hpp
      refine rg 1 ?_
      refine evx2 hwl hsl ?_
      repeat refine ⟨sd, ?_⟩
      refine k29 (sq fun _ k30 => rg 0 ?_)
      refine evx2 hwl htw ?_
      repeat refine ⟨sd, ?_⟩
      refine k30 (sq fun _ k31 => ?_)
      refine wps_keep [0, 1, 7, 9, 11, 12] mK ?_
      refine rgn 0 ?_
      repeat refine ⟨sd, ?_⟩
      refine k31 (dr 0 [0, 1, 0, 4, 12, 28, 60, 0, 252, 511, 1023, 2047, 2047, 4095] mixed ?_)
      refine evx hel ?_
      repeat refine ⟨sd, ?_⟩
      refine callE_at [] [] hle rfl rfl trivial mB mB rfl mR mR ?_
      refine evx hel ?_
      repeat refine ⟨sd, ?_⟩
      refine callE_at [] [] hpp rfl rfl trivial mB mB rfl mR mR ?_
      refine evx hel ?_
      repeat refine ⟨sd, ?_⟩
      refine k19 ?_
      exact hKL _ _ way.length _ ([.cells [.p 1 0], .cells [.p 6 0, .p 5 0, .u (.i .i64 0), .u (.i .i64 200), .u (.i .u64 0), .h 2, .h 3, .h 4], .map [], .map ((enc (pput id ⟨true, m, X⟩ W1)).map sent), .map [], .cells [.p 6 0, .u (.i .i64 0), .u (.i .u64 0), .u (.i .i64 1)], .cells [.u (.i .i64 1000), .u (.i .i64 1000), .h 7, .h 8, .h 9], .map vm, .map gm, .row 116 1 pr] ++ [.cells [.u (.b s.pg.leaf), .u (.i .i64 (s.pg.next : Int)), .u (.fz (X'.map crow) (some X'.length))]]) (entL hc0 [some 0, some 1, some 2, some 3, some 4, some 5, some 6, some 7, some 8, some 9, some 10] rfl rfl mB mB) ⟨_, m + 1, s.id, way, ⟨s.pg.leaf, s.pg.next, X'⟩, some X'.length, Option.map (fun x => x) q1, rfl, hC2, g12, by have := g12.id_lt; omega, by omega, rfl, rfl⟩ (by simp)
     ·exact absurd h4 (by simp)
  ·exact absurd h1 (by simp)
 ·have hsz := psize_ok ⟨leaf, next, l⟩ q (by have := g1.next; simp only at this ⊢; omega) (by have h1 := g1.size; have h2 := page_len ⟨leaf, next, l⟩; simp only at h1 h2 ⊢; omega)
  have hgt : decide ((2048 : Int) < ((pageS ⟨leaf, next, l⟩).length : Int)) = false := by have h1 := g1.size; exact decide_eq_false (by omega)
  have hwr := twrite_ok W vm gm pr id ⟨leaf, next, l⟩ q g2 g1
  rw [g3] at hwr
  simp only [tre, dskC, pgA] at hsz hwr
  refine rg 0 ?_
  refine evx hgt ?_
  repeat refine ⟨sd, ?_⟩
  refine callT_at [] [] hsz rfl rfl trivial mB mB rfl mR mR ?_
  refine evx hgt ?_
  repeat refine ⟨sd, ?_⟩
  refine k5 (cd rfl (fun h1 => ?_) (fun h1 => ?_))
  ·exact absurd h1 (by simp)
  ·refine wps_exit ?_
   simp only [reduceIte, Nat.reduceEqDiff]
   refine k3 (k2 (rgn 0 ?_))
   repeat refine ⟨sd, ?_⟩
   refine callT_at [0, 1, 2, 3, 4, 5, 6, 7, 8, 9] [_, _, _, _, _, _, _, _, _, _] hwr rfl rfl ⟨rfl, rfl, rfl, rfl, rfl, rfl, rfl, rfl, rfl, rfl, trivial⟩ mB mB rfl mR mR ?_
   refine evl ?_
   repeat refine ⟨sd, ?_⟩
   refine retL [some 0, some 1, some 2, some 3, some 4, some 5, some 6, some 7, some 8, some 9] rfl trivial rfl rfl ?_
   exact mT
 ·have hn0 : next = 0 := g5 rfl
  subst hn0
  simp only at g2 g3 g4
  have hsz := psize_ok ⟨false, 0, l⟩ q (by simp only; omega) (by simp only; omega)
  have hgt : decide ((2048 : Int) < ((pageS ⟨false, 0, l⟩).length : Int)) = true := decide_eq_true (by omega)
  have hsp := pgsplit_ok ⟨false, 0, l⟩ q g2 g3
  have hKl : splitK l < l.length := splitF_le (by omega)
  have hro := fun q1 q2 => root_ok W vm gm pr m false 0 0 (l.take (splitK l)) (l.drop (splitK l)) q1 q2 hC g6 (by simp; omega) g7 g8 g9 g10
  simp only [RP, LP, Bool.false_eq_true, reduceIte] at g11
  simp only [Bool.false_eq_true, reduceIte, g11] at hro
  simp only [tre, dskC, pgA, nl0] at hsz hsp hro
  refine rg 0 ?_
  refine evx hgt ?_
  repeat refine ⟨sd, ?_⟩
  refine callT_at [] [] hsz rfl rfl trivial mB mB rfl mR mR ?_
  refine evx hgt ?_
  repeat refine ⟨sd, ?_⟩
  refine k5 (cd rfl (fun h1 => ?_) (fun h1 => ?_))
  ·refine wps_skip (k4 (bk fun _ k32 => sq fun _ k33 => rgn 2 ?_))
   repeat refine ⟨sd, ?_⟩
   refine callT_at [] [] hsp rfl rfl trivial mB mB rfl mR mR ?_
   refine evl ?_
   repeat refine ⟨sd, ?_⟩
   refine k33 (sq fun _ k34 => sq fun _ k35 => rgn 0 ?_)
   repeat refine ⟨sd, ?_⟩
   refine k35 (cd rfl (fun h2 => ?_) (fun h2 => ?_))
   ·refine sq fun _ k36 => ?_
    refine wps_keep [0, 8, 9] mK ?_
    refine rgn 0 ?_
    repeat refine ⟨sd, ?_⟩
    refine callT_at [0, 1, 2, 3, 4, 5, 6, 7, 8, 9] [_, _, _, _, _, _, _, _, _, _] (hro (some (l.take (splitK l)).length) (some (l.drop (splitK l)).length)) rfl rfl ⟨rfl, rfl, rfl, rfl, rfl, rfl, rfl, rfl, rfl, rfl, trivial⟩ mB mB rfl mR mR ?_
    refine evl ?_
    repeat refine ⟨sd, ?_⟩
    refine k36 (wps_ret ?_)
    refine retL [some 0, some 1, some 2, some 3, some 4, some 5, some 6, some 7, some 8, some 9] rfl trivial rfl rfl ?_
    exact mT
   ·exact absurd h2 (by simp)
  ·exact absurd h1 (by simp)
 ·simp only at g2 g3 g4
  have hsz := psize_ok ⟨true, next, l⟩ q (by simp only; omega) (by simp only; omega)
  have hgt : decide ((2048 : Int) < ((pageS ⟨true, next, l⟩).length : Int)) = true := decide_eq_true (by omega)
  have hsp := pgsplit_ok ⟨true, next, l⟩ q g2 g3
  have hKl : splitK l < l.length := splitF_le (by omega)
  have hro := fun q1 q2 => root_ok W vm gm pr m true next next (l.take (splitK l)) (l.drop (splitK l)) q1 q2 hC g6 (by simp; omega) g7 g8 g9 g10
  simp only [RP, LP, reduceIte] at g11
  simp only [reduceIte, g11] at hro
  simp only [tre, dskC, pgA] at hsz hsp hro
  refine rg 0 ?_
  refine evx hgt ?_
  repeat refine ⟨sd, ?_⟩
  refine callT_at [] [] hsz rfl rfl trivial mB mB rfl mR mR ?_
  refine evx hgt ?_
  repeat refine ⟨sd, ?_⟩
  refine k5 (cd rfl (fun h1 => ?_) (fun h1 => ?_))
  ·refine wps_skip (k4 (bk fun _ k37 => sq fun _ k38 => rgn 2 ?_))
   repeat refine ⟨sd, ?_⟩
   refine callT_at [] [] hsp rfl rfl trivial mB mB rfl mR mR ?_
   refine evl ?_
   repeat refine ⟨sd, ?_⟩
   refine k38 (sq fun _ k39 => sq fun _ k40 => rgn 0 ?_)
   repeat refine ⟨sd, ?_⟩
   refine k40 (cd rfl (fun h2 => ?_) (fun h2 => ?_))
   ·refine sq fun _ k41 => ?_
    refine wps_keep [0, 8, 9] mK ?_
    refine rgn 0 ?_
    repeat refine ⟨sd, ?_⟩
    refine callT_at [0, 1, 2, 3, 4, 5, 6, 7, 8, 9] [_, _, _, _, _, _, _, _, _, _] (hro (some (l.take (splitK l)).length) (some (l.drop (splitK l)).length)) rfl rfl ⟨rfl, rfl, rfl, rfl, rfl, rfl, rfl, rfl, rfl, rfl, trivial⟩ mB mB rfl mR mR ?_
    refine evl ?_
    repeat refine ⟨sd, ?_⟩
    refine k41 (wps_ret ?_)
    refine retL [some 0, some 1, some 2, some 3, some 4, some 5, some 6, some 7, some 8, some 9] rfl trivial rfl rfl ?_
    exact mT
   ·exact absurd h2 (by simp)
  ·exact absurd h1 (by simp)

theorem Cnt.enc {W : PgM} {m : Nat} (h : Cnt W m) (i : Nat) : (sget i (enc W)).isSome = decide (i < m) := by
 rw [enc_get, Option.isSome_map, h i]


theorem tput_ok (W' W : PgM) (vm gm : List (PV × PV)) (pr : List (List PV)) (m : Nat) (way : List Stp) (s : Stp) (c0 : Cel) (hC : Cnt W m) (hm : m ≤ 80) (hW : Way W c0.1 0 (way ++ [s])) (hway : way.length ≤ 7) (hs : PgOK s.pg) (hid : s.id < 1000)
  (hU : Up W' W m way s.id ⟨s.pg.leaf, s.pg.next, putC c0 s.pg.cells⟩) (hc1 : c0.1.length ≤ 240) (hc2 : c0.1.length + c0.2.length ≤ 480) : CallT Tryz.prog 82 [.p 0 0, .agg [.u (.s c0.1), .u (.s c0.2)]] (tre W vm gm pr)
  fun r σ => r = .u (.i .i64 0) ∧ σ = tre W' vm gm pr := by
 have hwy := way_ok W vm gm pr c0.1 (way ++ [s]) hW (by simp; omega)
 have hscl := hs.cells_le
 have hpp := pgput_ok s.pg c0 none hs.sort (by omega) hc2
 have hpg := pages_ok (enc W) vm gm pr
 have hcnt : ((pagesL (enc W) 90).map irow).length = m := by rw [List.length_map, pagesL_count hC.enc]; omega
 have hup := up_ok W' W vm gm pr m s.id way ⟨s.pg.leaf, s.pg.next, putC c0 s.pg.cells⟩ (some (putC c0 s.pg.cells).length) (some way.length) hC hU hid (by omega)
 obtain ⟨X', hX'⟩ : ∃ X', putC c0 s.pg.cells = X' := ⟨_, rfl⟩
 rw [hX'] at hpp hup
 have hd1 : decide ((240 : Int) < (c0.1.length : Int)) = false := decide_eq_false (by omega)
 have hwl2 : (way ++ [s]).length = way.length + 1 := by simp
 have hwl : IntKind.i64.wrap (((way ++ [s]).length : Int) - 1) = (way.length : Int) := by rw [hwl2]; exact (wrap64 (by omega) (by omega)).trans (by omega)
 have hsl := srow_last way s
 have htw : ((way ++ [s]).map srow).take way.length = way.map srow := by rw [List.map_append, List.take_left' (by simp)]
 have hsr := srow_ok1 (way ++ [s])
 have hw90 : IntKind.i64.wrap (90 - (m : Int)) = 90 - (m : Int) := wrap64 (by omega) (by omega)
 have hw2 : IntKind.i64.wrap (((way ++ [s]).length : Int) + 2) = ((way.length + 3 : Nat) : Int) := by rw [hwl2]; exact (wrap64 (by omega) (by omega)).trans (by omega)
 have hd2 : decide ((90 - (m : Int)) < ((way.length + 3 : Nat) : Int)) = false := decide_eq_false (by omega)
 unfold tre pgr dskC pgA at *
 simp only at *
 refine cof 57 [.tmp 4] Tryz.func82 Tryz.ntmps82 fun c hnt hc0 => ?_
 refine sq fun _ k1 => rgn 1 ?_
 repeat refine ⟨sd, ?_⟩
 refine k1 (sq fun _ k2 => sq fun _ k3 => rg 0 ?_)
 refine evx hd1 ?_
 repeat refine ⟨sd, ?_⟩
 refine k3 (cd rfl (fun h1 => ?_) (fun h1 => ?_))
 ·exact absurd h1 (by simp)
 ·refine wps_skip (k2 (sq fun _ k4 => rgn 0 ?_))
  repeat refine ⟨sd, ?_⟩
  refine callT_at [0, 1, 2, 3, 4, 5, 6, 7, 8, 9] [_, _, _, _, _, _, _, _, _, _] hwy rfl rfl ⟨rfl, rfl, rfl, rfl, rfl, rfl, rfl, rfl, rfl, rfl, trivial⟩ mB mB rfl mR mR ?_
  refine evl ?_
  repeat refine ⟨sd, ?_⟩
  refine k4 (sq fun _ k5 => rg 1 ?_)
  refine evx2 hwl hsl ?_
  repeat refine ⟨sd, ?_⟩
  refine k5 (sq fun _ k6 => rgn 1 ?_)
  repeat refine ⟨sd, ?_⟩
  refine callT_at [] [] hpp rfl rfl trivial mB mB rfl mR mR ?_
  refine evl ?_
  repeat refine ⟨sd, ?_⟩
  refine k6 (sq fun _ k7 => sq fun _ k8 => rgn 0 ?_)
  repeat refine ⟨sd, ?_⟩
  refine k8 (cd rfl (fun h2 => ?_) (fun h2 => ?_))
  ·exact absurd h2 (by simp)
  ·refine wps_skip (k7 (sq fun _ k9 => sq fun _ k10 => rg 0 ?_))
   refine evx4 hcnt hw90 hw2 hd2 ?_
   repeat refine ⟨sd, ?_⟩
   refine callT_at [1, 2, 3, 4, 5, 6, 7, 8, 9] [_, _, _, _, _, _, _, _, _] hpg rfl rfl ⟨rfl, rfl, rfl, rfl, rfl, rfl, rfl, rfl, rfl, trivial⟩ mB mB rfl mR mR ?_
   refine evx4 hcnt hw90 hw2 hd2 ?_
   repeat refine ⟨sd, ?_⟩
   refine k10 (cd rfl (fun h3 => ?_) (fun h3 => ?_))
   ·exact absurd h3 (by simp)
   ·refine wps_skip (k9 (sq fun _ k11 => dr 0 [0, 0, 0, 4, 12, 0, 32, 96, 254, 0, 512, 0, 4095] mixed ?_))
    refine evx2 hwl htw ?_
    repeat refine ⟨sd, ?_⟩
    refine callE_at [0, 1, 2, 3, 4, 5, 6, 7, 8, 9] [_, _, _, _, _, _, _, _, _, _] hup rfl rfl ⟨rfl, rfl, rfl, rfl, rfl, rfl, rfl, rfl, rfl, rfl, trivial⟩ mB mB rfl mR mR ?_
    refine evx2 hwl htw ?_
    repeat refine ⟨sd, ?_⟩
    refine k11 (sq fun _ k12 => rgn 0 ?_)
    repeat refine ⟨sd, ?_⟩
    refine k12 (wps_ret ?_)
    refine retL [some 0, some 1, some 2, some 3, some 4, some 5, some 6, some 7, some 8, some 9] rfl ⟨trivial, trivial⟩ rfl rfl ?_
    exact mT

/-! ### a key's value -/
theorem tget_ok (W : PgM) (vm gm : List (PV × PV)) (pr : List (List PV)) (way : List Stp) (s : Stp) (key v : List UInt8) (hW : Way W key 0 (way ++ [s])) (hway : way.length ≤ 7) (hs : PgOK s.pg) (hk1 : keyAt key s.pg.cells = true) (hk2 : (s.pg.cells.getD (lob key s.pg.cells) ([], [])).2 = v) : CallT Tryz.prog 52 [.p 0 0, .u (.s key)] (tre W vm gm pr)
  fun r σ => r = .tup [.u (.s v), .u (.i .i64 0)] ∧ σ = tre W vm gm pr := by
 have hwy := way_ok W vm gm pr key (way ++ [s]) hW (by simp; omega)
 have hscl := hs.cells_le
 have hf := find_ok s.pg none key hs.sort (by omega)
 have hel := crow_at (keyAt_lt hk1)
 have hlt := keyAt_lt hk1
 rw [hk1] at hf
 rw [hk2] at hel
 obtain ⟨K, hK⟩ : ∃ K, lob key s.pg.cells = K := ⟨_, rfl⟩
 rw [hK] at hf hel hlt
 have hwl2 : (way ++ [s]).length = way.length + 1 := by simp
 have hwl : IntKind.i64.wrap (((way ++ [s]).length : Int) - 1) = (way.length : Int) := by rw [hwl2]; exact (wrap64 (by omega) (by omega)).trans (by omega)
 have hsl := srow_last way s
 have hsr := srow_ok1 (way ++ [s])
 unfold tre dskC pgA at *
 try simp only at *
 refine cof 34 [.tmp 4, .tmp 5] Tryz.func52 Tryz.ntmps52 fun c hnt hc0 => ?_
 refine sq fun _ k1 => rgn 0 ?_
 repeat refine ⟨sd, ?_⟩
 refine k1 (sq fun _ k2 => rgn 0 ?_)
 repeat refine ⟨sd, ?_⟩
 refine callT_at [0, 1, 2, 3, 4, 5, 6, 7, 8, 9] [_, _, _, _, _, _, _, _, _, _] hwy rfl rfl ⟨rfl, rfl, rfl, rfl, rfl, rfl, rfl, rfl, rfl, rfl, trivial⟩ mB mB rfl mR mR ?_
 refine evl ?_
 repeat refine ⟨sd, ?_⟩
 refine k2 (sq fun _ k3 => rg 1 ?_)
 refine evx2 hwl hsl ?_
 repeat refine ⟨sd, ?_⟩
 refine k3 (sq fun _ k4 => rgn 0 ?_)
 repeat refine ⟨sd, ?_⟩
 refine callT_at [] [] hf rfl rfl trivial mB mB rfl mR mR ?_
 refine evl ?_
 repeat refine ⟨sd, ?_⟩
 refine k4 (sq fun _ k5 => sq fun _ k6 => rgn 0 ?_)
 repeat refine ⟨sd, ?_⟩
 refine k6 (cd rfl (fun h1 => ?_) (fun h1 => ?_))
 ·exact absurd h1 (by simp)
 ·refine wps_skip (k5 (sq fun _ k7 => rg 0 ?_))
  refine evx hel ?_
  repeat refine ⟨sd, ?_⟩
  refine k7 (wps_ret ?_)
  refine retL [some 0, some 1, some 2, some 3, some 4, some 5, some 6, some 7, some 8, some 9] mA mO rfl rfl ?_
  exact mT

/-! ### the cells of a range -/
def stopB (opn : Bool) (to : List UInt8) (lim : Int) (n : Nat) (c : Cel) : Bool := (decide (0 ≤ lim) && decide (lim ≤ (n : Int))) || (!opn && !Op.bytesLess c.1 to)
def takeL (opn : Bool) (to : List UInt8) (lim : Int) : List Cel → List Cel → List Cel
 | acc, [] => acc
 | acc, c :: r => if stopB opn to lim acc.length c then acc else takeL opn to lim (acc ++ [c]) r
inductive Rst (W : PgM) : Nat → List (List Cel) → Prop
 | nil : Rst W 0 []
 | cons {n : Nat} {p : Pg} {ps : List (List Cel)} (h0 : n ≠ 0) (h1 : pget n W = some p) (h2 : PgOK p) (h3 : Rst W p.next ps) : Rst W n (p.cells :: ps)

theorem full_ok (frm to : List UInt8) (opn : Bool) (lim : Int) (acc : List Cel) (hacc : acc.length ≤ 100000) : CallT Tryz.prog 83 [.p 0 0, .p 1 0] [.cells [.u (.s frm), .u (.s to), .u (.b opn), .u (.b false), .u (.i .i64 lim)], .cells [.h 2], .row 100 2 (acc.map crow)]
  fun r σ => r = .u (.b (decide (0 ≤ lim) && decide (lim ≤ (acc.length : Int)))) ∧ σ = [.cells [.u (.s frm), .u (.s to), .u (.b opn), .u (.b false), .u (.i .i64 lim)], .cells [.h 2], .row 100 2 (acc.map crow)] := by
 refine cof 13 [.tmp 2] Tryz.func83 Tryz.ntmps83 fun c hnt hc0 => ?_
 refine sq fun _ k1 => rgn 0 ?_
 repeat refine ⟨sd, ?_⟩
 refine k1 (sq fun _ k2 => rgn 0 ?_)
 repeat refine ⟨sd, ?_⟩
 refine k2 (wps_ret ?_)
 refine retL [some 0, some 1, some 2] rfl ⟨trivial, trivial⟩ rfl rfl ?_
 cases h : decide (0 ≤ lim) <;> simp only [retSV, SV.mv, mvs, subL, List.map_nil, List.map_cons, SObj.mv, posOf, back, List.length_cons, List.length_nil, List.getElem?_cons_zero, List.getElem?_cons_succ, Option.map_some, Nat.reduceAdd, Nat.reduceLT, Nat.zero_add, Nat.lt_add_one, List.getD_cons_zero, List.getD_cons_succ, reduceIte, Nat.reduceEqDiff, Env.get, Env.put, and_true, true_and, implies_true, h, cond_true, cond_false, Bool.true_and, Bool.false_and]

theorem take_stop (frm to : List UInt8) (opn : Bool) (lim : Int) (acc : List Cel) (c0 : Cel) (hacc : acc.length ≤ 100000) (hst : stopB opn to lim acc.length c0 = true) : CallT Tryz.prog 85 [.agg [.u (.s c0.1), .u (.s c0.2)], .p 2 0, .p 0 0, .p 1 0] [.cells [.u (.s frm), .u (.s to), .u (.b opn), .u (.b false), .u (.i .i64 lim)], .cells [.h 3], .cells [.fn 83 [.p 0 0, .p 1 0]], .row 100 2 (acc.map crow)]
  fun r σ => r = .u (.b false) ∧ σ = [.cells [.u (.s frm), .u (.s to), .u (.b opn), .u (.b false), .u (.i .i64 lim)], .cells [.h 3], .cells [.fn 83 [.p 0 0, .p 1 0]], .row 100 2 (acc.map crow)] := by
 have hf := full_ok frm to opn lim acc hacc
 obtain ⟨B, hB⟩ : ∃ B, (decide (0 ≤ lim) && decide (lim ≤ (acc.length : Int))) = B := ⟨_, rfl⟩
 rw [stopB, hB] at hst
 rw [hB] at hf
 obtain ⟨C, hC⟩ : ∃ C, Op.bytesLess c0.1 to = C := ⟨_, rfl⟩
 rw [hC] at hst
 refine cof 24 [.tmp 5] Tryz.func85 Tryz.ntmps85 fun c hnt hc0 => ?_
 refine sq fun _ k1 => rgn 1 ?_
 repeat refine ⟨sd, ?_⟩
 refine k1 (sq fun _ k2 => sq fun _ k3 => rg 0 ?_)
 refine evx hC ?_
 repeat refine ⟨sd, ?_⟩
 refine callT_at [0, 1, 3] [_, _, _] hf rfl rfl ⟨rfl, rfl, rfl, trivial⟩ mB mB rfl mR mR ?_
 refine evx hC ?_
 skip
 repeat refine ⟨sd, ?_⟩
 refine k3 (cd rfl (fun h1 => ?_) (fun h1 => ?_))
 ·refine sq fun _ k4 => rgn 0 ?_
  repeat refine ⟨sd, ?_⟩
  refine k4 (wps_ret ?_)
  refine retL [some 0, some 1, some 2, some 3] rfl ⟨trivial, trivial⟩ rfl rfl ?_
  exact mT
 ·exact absurd h1 (by revert hst; cases B <;> cases opn <;> cases C <;> simp)

theorem take_more (frm to : List UInt8) (opn : Bool) (lim : Int) (acc : List Cel) (c0 : Cel) (hacc : acc.length ≤ 100000) (hst : stopB opn to lim acc.length c0 = false) : CallT Tryz.prog 85 [.agg [.u (.s c0.1), .u (.s c0.2)], .p 2 0, .p 0 0, .p 1 0] [.cells [.u (.s frm), .u (.s to), .u (.b opn), .u (.b false), .u (.i .i64 lim)], .cells [.h 3], .cells [.fn 83 [.p 0 0, .p 1 0]], .row 100 2 (acc.map crow)]
  fun r σ => r = .u (.b true) ∧ σ = [.cells [.u (.s frm), .u (.s to), .u (.b opn), .u (.b false), .u (.i .i64 lim)], .cells [.h 4], .cells [.fn 83 [.p 0 0, .p 1 0]], .dead] ++ [.row 100 2 ((acc ++ [c0]).map crow)] := by
 have hf := full_ok frm to opn lim acc hacc
 obtain ⟨B, hB⟩ : ∃ B, (decide (0 ≤ lim) && decide (lim ≤ (acc.length : Int))) = B := ⟨_, rfl⟩
 rw [stopB, hB] at hst
 rw [hB] at hf
 obtain ⟨C, hC⟩ : ∃ C, Op.bytesLess c0.1 to = C := ⟨_, rfl⟩
 rw [hC] at hst
 have hr1 := crow_ok1 acc
 have hr2 := crow_ok2 acc
 refine cof 24 [.tmp 5] Tryz.func85 Tryz.ntmps85 fun c hnt hc0 => ?_
 refine sq fun _ k1 => rgn 1 ?_
 repeat refine ⟨sd, ?_⟩
 refine k1 (sq fun _ k2 => sq fun _ k3 => rg 0 ?_)
 refine evx hC ?_
 repeat refine ⟨sd, ?_⟩
 refine callT_at [0, 1, 3] [_, _, _] hf rfl rfl ⟨rfl, rfl, rfl, trivial⟩ mB mB rfl mR mR ?_
 refine evx hC ?_
 repeat refine ⟨sd, ?_⟩
 refine k3 (cd rfl (fun h1 => ?_) (fun h1 => ?_))
 ·exact absurd h1 (by revert hst; cases B <;> cases opn <;> cases C <;> simp)
 ·refine wps_skip (k2 (sq fun _ k4 => rgn 1 ?_))
  repeat refine ⟨sd, ?_⟩
  refine k4 (sq fun _ k5 => rgn 0 ?_)
  repeat refine ⟨sd, ?_⟩
  refine k5 (wps_ret ?_)
  refine retL [some 0, some 1, some 2, some 3, some 5] rfl ⟨trivial, trivial⟩ rfl rfl ?_
  simp only [go_sem, and_true, true_and, implies_true, reduceIte, Nat.reduceEqDiff, Nat.reduceAdd, Nat.reduceLT, List.map_append, List.map_cons, List.map_nil, crow, List.cons_append, List.nil_append]
end Go.Proofs.YtefipnajpabfgaaGreatDoor
