/- Part 12 of the proof: what functions of the program do, and plain facts on what they compute. -/
import Derived.Test.YtefipnajpabfgaaGreatDoorP11
set_option linter.all false
set_option maxRecDepth 40000
set_option maxHeartbeats 16000000
set_option linter.unusedSimpArgs false
set_option linter.unusedVariables false
namespace Go.Proofs.YtefipnajpabfgaaGreatDoor
open Go.Nm
def frC (frm to : List UInt8) (opn : Bool) (lim : Int) : SObj := .cells [.u (.s frm), .u (.s to), .u (.b opn), .u (.b false), .u (.i .i64 lim)]

theorem drop_cons {l : List Cel} {i : Nat} (h : i < l.length) : l.drop i = l.getD i ([], []) :: l.drop (i + 1) := by
 rw [List.drop_eq_getElem_cons h, List.getD_eq_getElem?_getD, List.getElem?_eq_getElem h]; rfl
theorem takeL_len (opn : Bool) (to : List UInt8) (lim : Int) : ∀ (l acc : List Cel), acc.length ≤ (takeL opn to lim acc l).length
 | [], acc => Nat.le_refl _
 | c :: r, acc => by
  rw [takeL]
  split
  ·exact Nat.le_refl _
  ·have := takeL_len opn to lim r (acc ++ [c])
   simp at this; omega

theorem from_ok (W : PgM) (vm gm : List (PV × PV)) (pr : List (List PV)) (way : List Stp) (s : Stp) (key : List UInt8) (frm to : List UInt8) (opn : Bool) (lim : Int) (ps : List (List Cel)) (RES : List Cel) (hW : Way W key 0 (way ++ [s])) (hway : way.length ≤ 7) (hs : PgOK s.pg) (hps : Rst W s.pg.next ps)
  (hRES : takeL opn to lim [] (s.pg.cells.drop (lob key s.pg.cells) ++ ps.flatten) = RES) (hRl : RES.length ≤ 90000) : CallT Tryz.prog 84 [.p 0 0, .u (.s key), .fn 85 [.p 12 0, .p 10 0, .p 11 0]] (tre W vm gm pr ++ [frC frm to opn lim, .cells [.h 13], .cells [.fn 83 [.p 10 0, .p 11 0]], .row 100 2 []])
  fun r σ => r = .tup [] ∧ σ = tre W vm gm pr ++ [frC frm to opn lim, .cells [.h 14], .cells [.fn 83 [.p 10 0, .p 11 0]], .dead] ++ [.row 100 2 (RES.map crow)] := by
 have hwy := way_ok W vm gm pr key (way ++ [s]) hW (by simp; omega)
 have hscl := hs.cells_le
 have hf := find_ok s.pg none key hs.sort (by omega)
 obtain ⟨K, hK⟩ : ∃ K, lob key s.pg.cells = K := ⟨_, rfl⟩
 have hKl := lob_le key s.pg.cells
 rw [hK] at hf hRES hKl
 have hwl2 : (way ++ [s]).length = way.length + 1 := by simp
 have hwl : IntKind.i64.wrap (((way ++ [s]).length : Int) - 1) = (way.length : Int) := by rw [hwl2]; exact (wrap64 (by omega) (by omega)).trans (by omega)
 have hsl := srow_last way s
 have hsr := srow_ok1 (way ++ [s])
 have hrd := fun id p h1 h2 => tread_ok W vm gm pr id p h1 h2
 unfold frC
 unfold tre dskC pgA at *
 simp only [List.cons_append, List.nil_append] at *
 refine cof 51 [] Tryz.func84 Tryz.ntmps84 fun c hnt hc0 => ?_
 replace hc0 : c.β0.length = 14 := hc0
 refine sq fun _ k1 => rgn 0 ?_
 repeat refine ⟨sd, ?_⟩
 refine callT_at [0, 1, 2, 3, 4, 5, 6, 7, 8, 9] [_, _, _, _, _, _, _, _, _, _] hwy rfl rfl ⟨rfl, rfl, rfl, rfl, rfl, rfl, rfl, rfl, rfl, rfl, trivial⟩ mB mB rfl mR mR ?_
 refine evl ?_
 repeat refine ⟨sd, ?_⟩
 refine k1 (sq fun _ k2 => rg 1 ?_)
 refine evx2 hwl hsl ?_
 repeat refine ⟨sd, ?_⟩
 refine k2 (sq fun _ k3 => rgn 0 ?_)
 repeat refine ⟨sd, ?_⟩
 refine callT_at [] [] hf rfl rfl trivial mB mB rfl mR mR ?_
 refine evl ?_
 repeat refine ⟨sd, ?_⟩
 refine k3 (bk fun _ k4 => ?_)
 refine wps_loop (fun m e σ => ∃ (p : Pg) (q : Option Nat) (i : Nat) (acc : List Cel) (ps : List (List Cel)), m = ps.length ∧ PgOK p ∧ i ≤ p.cells.length ∧ Rst W p.next ps ∧ takeL opn to lim acc (p.cells.drop i ++ ps.flatten) = RES ∧ e = [(0, .p 0 0), (2, .fn 85 [.p 12 0, .p 10 0, .p 11 0]), (7, .p 15 0), (8, .u (.i .i64 (i : Int)))] ∧ σ = [.cells [.p 1 0], .cells [.p 6 0, .p 5 0, .u (.i .i64 0), .u (.i .i64 200), .u (.i .u64 0), .h 2, .h 3, .h 4], .map [], .map ((enc W).map sent), .map [], .cells [.p 6 0, .u (.i .i64 0), .u (.i .u64 0), .u (.i .i64 1)], .cells [.u (.i .i64 1000), .u (.i .i64 1000), .h 7, .h 8, .h 9], .map vm, .map gm, .row 116 1 pr] ++ [.cells [.u (.s frm), .u (.s to), .u (.b opn), .u (.b false), .u (.i .i64 lim)], .cells [.h 14], .cells [.fn 83 [.p 10 0, .p 11 0]], .dead, .row 100 2 ((acc).map crow), .cells [.u (.b (p).leaf), .u (.i .i64 ((p).next : Int)), .u (.fz ((p).cells.map crow) q)]])
  (e0 := [(0, .p 0 0), (2, .fn 85 [.p 12 0, .p 10 0, .p 11 0]), (7, .p 15 0), (8, .u (.i .i64 (K : Int)))]) (σ0 := [.cells [.p 1 0], .cells [.p 6 0, .p 5 0, .u (.i .i64 0), .u (.i .i64 200), .u (.i .u64 0), .h 2, .h 3, .h 4], .map [], .map ((enc W).map sent), .map [], .cells [.p 6 0, .u (.i .i64 0), .u (.i .u64 0), .u (.i .i64 1)], .cells [.u (.i .i64 1000), .u (.i .i64 1000), .h 7, .h 8, .h 9], .map vm, .map gm, .row 116 1 pr] ++ [.cells [.u (.s frm), .u (.s to), .u (.b opn), .u (.b false), .u (.i .i64 lim)], .cells [.h 14], .cells [.fn 83 [.p 10 0, .p 11 0]], .dead, .row 100 2 (([]).map crow), .cells [.u (.b (s.pg).leaf), .u (.i .i64 ((s.pg).next : Int)), .u (.fz ((s.pg).cells.map crow) none)]]) (entL2 hc0 [some 0, some 1, some 2, some 3, some 4, some 5, some 6, some 7, some 8, some 9, some 10, some 11, some 12, none, some 13, some 14] rfl rfl mB (by simp only [go_sem, reduceIte, Nat.reduceEqDiff, Nat.reduceAdd, Nat.reduceLT, List.map_nil, List.cons_append, List.nil_append])) ⟨s.pg, none, K, [], ps, rfl, hs, hKl, hps, hRES, rfl, rfl⟩ fun KL m e1 σ1 hI hKL => ?_
 obtain ⟨p, q, i, acc, ps, rfl, hp, hip, hps, hres, rfl, rfl⟩ := hI
 have hpcl := hp.cells_le
 refine sq fun _ k5 => bk fun _ k6 => sq fun _ k7 => bk fun _ k8 => ?_
 refine wps_loop (fun m e σ => ∃ (i : Nat) (acc : List Cel), m = p.cells.length - i ∧ i ≤ p.cells.length ∧ takeL opn to lim acc (p.cells.drop i ++ ps.flatten) = RES ∧ e = [(0, .p 0 0), (2, .fn 85 [.p 12 0, .p 10 0, .p 11 0]), (7, .p 15 0), (8, .u (.i .i64 (i : Int)))] ∧ σ = [.cells [.p 1 0], .cells [.p 6 0, .p 5 0, .u (.i .i64 0), .u (.i .i64 200), .u (.i .u64 0), .h 2, .h 3, .h 4], .map [], .map ((enc W).map sent), .map [], .cells [.p 6 0, .u (.i .i64 0), .u (.i .u64 0), .u (.i .i64 1)], .cells [.u (.i .i64 1000), .u (.i .i64 1000), .h 7, .h 8, .h 9], .map vm, .map gm, .row 116 1 pr] ++ [.cells [.u (.s frm), .u (.s to), .u (.b opn), .u (.b false), .u (.i .i64 lim)], .cells [.h 14], .cells [.fn 83 [.p 10 0, .p 11 0]], .dead, .row 100 2 ((acc).map crow), .cells [.u (.b (p).leaf), .u (.i .i64 ((p).next : Int)), .u (.fz ((p).cells.map crow) q)]])
  (e0 := [(0, .p 0 0), (2, .fn 85 [.p 12 0, .p 10 0, .p 11 0]), (7, .p 15 0), (8, .u (.i .i64 (i : Int)))]) (σ0 := [.cells [.p 1 0], .cells [.p 6 0, .p 5 0, .u (.i .i64 0), .u (.i .i64 200), .u (.i .u64 0), .h 2, .h 3, .h 4], .map [], .map ((enc W).map sent), .map [], .cells [.p 6 0, .u (.i .i64 0), .u (.i .u64 0), .u (.i .i64 1)], .cells [.u (.i .i64 1000), .u (.i .i64 1000), .h 7, .h 8, .h 9], .map vm, .map gm, .row 116 1 pr] ++ [.cells [.u (.s frm), .u (.s to), .u (.b opn), .u (.b false), .u (.i .i64 lim)], .cells [.h 14], .cells [.fn 83 [.p 10 0, .p 11 0]], .dead, .row 100 2 ((acc).map crow), .cells [.u (.b (p).leaf), .u (.i .i64 ((p).next : Int)), .u (.fz ((p).cells.map crow) q)]]) (entL hc0 [some 0, some 1, some 2, some 3, some 4, some 5, some 6, some 7, some 8, some 9, some 10, some 11, some 12, some 13, some 14, some 15] rfl rfl mB mB) ⟨i, acc, rfl, hip, hres, rfl, rfl⟩ fun KL2 m2 e2 σ2 hI2 hKL2 => ?_
 obtain ⟨i, acc, rfl, hip, hres, rfl, rfl⟩ := hI2
 simp only [List.cons_append, List.nil_append]
 refine sq fun _ k9 => sq fun _ k10 => rgn 0 ?_
 repeat refine ⟨sd, ?_⟩
 refine k10 (cd rfl (fun h1 => ?_) (fun h1 => ?_))
 ·have hlt : i < p.cells.length := by simp at h1; omega
  have hel := crow_at hlt
  obtain ⟨c0, hc0'⟩ : ∃ c0, p.cells.getD i ([], []) = c0 := ⟨_, rfl⟩
  rw [hc0'] at hel
  rw [drop_cons hlt, hc0', List.cons_append, takeL] at hres
  have hal : acc.length ≤ 90000 := by
   have := takeL_len opn to lim (p.cells.drop (i + 1) ++ ps.flatten) (acc ++ [c0])
   rw [← hres] at hRl
   split at hRl
   ·exact hRl
   ·rw [List.length_append, List.length_singleton] at this; omega
  have hw1 := wi1 i
  refine wps_skip (k9 (sq fun _ k11 => bk fun _ k12 => sq fun _ k13 => ?_))
  cases hst : stopB opn to lim acc.length c0
  rotate_left
  ·rw [hst, if_pos rfl] at hres
   have hta := take_stop frm to opn lim acc c0 (by omega) hst
   refine rg 0 ?_
   refine evx hel ?_
   repeat refine ⟨sd, ?_⟩
   refine callT_at [10, 11, 12, 14] [_, _, _, _] hta rfl rfl ⟨rfl, rfl, rfl, rfl, trivial⟩ mB mB rfl mR mR ?_
   refine evx hel ?_
   repeat refine ⟨sd, ?_⟩
   refine k13 (cd rfl (fun h2 => ?_) (fun h2 => ?_))
   ·refine wps_ret ?_
    subst hres
    refine retL [some 0, some 1, some 2, some 3, some 4, some 5, some 6, some 7, some 8, some 9, some 10, some 11, some 12, some 13, some 14] rfl trivial rfl rfl ?_
    exact mU
   ·exact absurd h2 (by simp)
  ·rw [hst, if_neg (by simp)] at hres
   have hta := take_more frm to opn lim acc c0 (by omega) hst
   refine rg 0 ?_
   refine evx hel ?_
   repeat refine ⟨sd, ?_⟩
   refine callT_atN [10, 11, 12, 14] [_, _, _, _] hta rfl rfl ⟨rfl, rfl, rfl, rfl, trivial⟩ mB mB rfl ?_
   refine fxl ?_
   refine evx hel ?_
   repeat refine ⟨sd, ?_⟩
   refine k13 (cd rfl (fun h2 => ?_) (fun h2 => ?_))
   ·exact absurd h2 (by simp)
   ·refine wps_skip (k12 (k11 (rg 0 ?_)))
    refine evx hw1 ?_
    repeat refine ⟨sd, ?_⟩
    exact hKL2 _ _ (p.cells.length - (i + 1)) _ ([.cells [.p 1 0], .cells [.p 6 0, .p 5 0, .u (.i .i64 0), .u (.i .i64 200), .u (.i .u64 0), .h 2, .h 3, .h 4], .map [], .map ((enc W).map sent), .map [], .cells [.p 6 0, .u (.i .i64 0), .u (.i .u64 0), .u (.i .i64 1)], .cells [.u (.i .i64 1000), .u (.i .i64 1000), .h 7, .h 8, .h 9], .map vm, .map gm, .row 116 1 pr] ++ [.cells [.u (.s frm), .u (.s to), .u (.b opn), .u (.b false), .u (.i .i64 lim)], .cells [.h 14], .cells [.fn 83 [.p 10 0, .p 11 0]], .dead, .row 100 2 (((acc ++ [c0])).map crow), .cells [.u (.b (p).leaf), .u (.i .i64 ((p).next : Int)), .u (.fz ((p).cells.map crow) q)]]) (entL2 hc0 [some 0, some 1, some 2, some 3, some 4, some 5, some 6, some 7, some 8, some 9, some 10, some 11, some 12, none, some 16, some 15] rfl rfl mB (by simp only [go_sem, reduceIte, Nat.reduceEqDiff, Nat.reduceAdd, Nat.reduceLT, List.map_append, List.map_cons, List.map_nil, List.cons_append, List.nil_append])) ⟨i + 1, acc ++ [c0], rfl, by omega, hres, rfl, rfl⟩ (by omega)
 ·have hil : i = p.cells.length := by simp at h1; omega
  subst hil
  rw [List.drop_length, List.nil_append] at hres
  obtain ⟨nx, hnx⟩ : ∃ nx, p.next = nx := ⟨_, rfl⟩
  rw [hnx] at hps ⊢
  refine wps_exit ?_
  simp only [reduceIte, Nat.reduceEqDiff]
  refine k8 (k7 (sq fun _ k14 => sq fun _ k15 => ?_))
  rcases hps with _ | @⟨_, p2, ps, g0, g1, g2, g3⟩
  ·simp only [List.flatten_nil, takeL] at hres
   refine rgn 0 ?_
   repeat refine ⟨sd, ?_⟩
   refine k15 (cd rfl (fun h3 => ?_) (fun h3 => ?_))
   ·refine wps_ret ?_
    subst hres
    refine retL [some 0, some 1, some 2, some 3, some 4, some 5, some 6, some 7, some 8, some 9, some 10, some 11, some 12, some 13, some 14] rfl trivial rfl rfl ?_
    exact mU
   ·exact absurd h3 (by simp)
  ·have hz : ((nx : Int) == 0) = false := beq_eq_false_iff_ne.2 (by omega)
   have hr2 := hrd nx p2 g1 g2
   rw [List.flatten_cons] at hres
   refine rg 0 ?_
   refine evx hz ?_
   repeat refine ⟨sd, ?_⟩
   refine k15 (cd rfl (fun h3 => ?_) (fun h3 => ?_))
   ·exact absurd h3 (by simp)
   ·refine wps_skip (k14 (rgn 0 ?_))
    repeat refine ⟨sd, ?_⟩
    refine callT_at [0, 1, 2, 3, 4, 5, 6, 7, 8, 9] [_, _, _, _, _, _, _, _, _, _] hr2 rfl rfl ⟨rfl, rfl, rfl, rfl, rfl, rfl, rfl, rfl, rfl, rfl, trivial⟩ mB mB rfl mR mR ?_
    refine evl ?_
    repeat refine ⟨sd, ?_⟩
    refine k6 (k5 ?_)
    refine wps_keep [0, 2, 7] mK ?_
    refine rgn 0 ?_
    repeat refine ⟨sd, ?_⟩
    exact hKL _ _ ps.length _ ([.cells [.p 1 0], .cells [.p 6 0, .p 5 0, .u (.i .i64 0), .u (.i .i64 200), .u (.i .u64 0), .h 2, .h 3, .h 4], .map [], .map ((enc W).map sent), .map [], .cells [.p 6 0, .u (.i .i64 0), .u (.i .u64 0), .u (.i .i64 1)], .cells [.u (.i .i64 1000), .u (.i .i64 1000), .h 7, .h 8, .h 9], .map vm, .map gm, .row 116 1 pr] ++ [.cells [.u (.s frm), .u (.s to), .u (.b opn), .u (.b false), .u (.i .i64 lim)], .cells [.h 14], .cells [.fn 83 [.p 10 0, .p 11 0]], .dead, .row 100 2 ((acc).map crow), .cells [.u (.b (p2).leaf), .u (.i .i64 ((p2).next : Int)), .u (.fz ((p2).cells.map crow) none)]]) (entL hc0 [some 0, some 1, some 2, some 3, some 4, some 5, some 6, some 7, some 8, some 9, some 10, some 11, some 12, some 13, some 14, some 15] rfl rfl mB mB) ⟨p2, none, 0, acc, ps, rfl, g2, Nat.zero_le _, g3, hres, rfl, rfl⟩ (by simp)

theorem trange0_ok (W : PgM) (vm gm : List (PV × PV)) (pr : List (List PV)) (way : List Stp) (s : Stp) (frm to : List UInt8) (opn : Bool) (lim : Int) (ps : List (List Cel)) (RES : List Cel) (hW : Way W frm 0 (way ++ [s])) (hway : way.length ≤ 7) (hs : PgOK s.pg) (hps : Rst W s.pg.next ps)
  (hRES : takeL opn to lim [] (s.pg.cells.drop (lob frm s.pg.cells) ++ ps.flatten) = RES) (hRl : RES.length ≤ 90000) : CallT Tryz.prog 51 [.p 0 0, .agg [.u (.s frm), .u (.s to), .u (.b opn), .u (.b false), .u (.i .i64 lim)]] (tre W vm gm pr)
  fun r σ => r = .u (.fz (RES.map crow) none) ∧ σ = tre W vm gm pr := by
 have hf := from_ok W vm gm pr way s frm frm to opn lim ps RES hW hway hs hps hRES hRl
 unfold frC at hf
 unfold tre dskC at *
 replace hf : CallT Tryz.prog 84 [.p 0 0, .u (.s frm), .fn 85 [.p 12 0, .p 10 0, .p 11 0]] [.cells [.p 1 0], .cells [.p 6 0, .p 5 0, .u (.i .i64 0), .u (.i .i64 200), .u (.i .u64 0), .h 2, .h 3, .h 4], .map [], .map ((enc W).map sent), .map [], .cells [.p 6 0, .u (.i .i64 0), .u (.i .u64 0), .u (.i .i64 1)], .cells [.u (.i .i64 1000), .u (.i .i64 1000), .h 7, .h 8, .h 9], .map vm, .map gm, .row 116 1 pr, .cells [.u (.s frm), .u (.s to), .u (.b opn), .u (.b false), .u (.i .i64 lim)], .cells [.h 13], .cells [.fn 83 [.p 10 0, .p 11 0]], .row 100 2 []]
  (fun r σ => r = .tup [] ∧ σ = [.cells [.p 1 0], .cells [.p 6 0, .p 5 0, .u (.i .i64 0), .u (.i .i64 200), .u (.i .u64 0), .h 2, .h 3, .h 4], .map [], .map ((enc W).map sent), .map [], .cells [.p 6 0, .u (.i .i64 0), .u (.i .u64 0), .u (.i .i64 1)], .cells [.u (.i .i64 1000), .u (.i .i64 1000), .h 7, .h 8, .h 9], .map vm, .map gm, .row 116 1 pr, .cells [.u (.s frm), .u (.s to), .u (.b opn), .u (.b false), .u (.i .i64 lim)], .cells [.h 14], .cells [.fn 83 [.p 10 0, .p 11 0]], .dead] ++ [.row 100 2 (RES.map crow)]) := hf
 refine cof 59 [.tmp 4] Tryz.func51 Tryz.ntmps51 fun c hnt hc0 => ?_
 refine sq fun _ k1 => rgn 1 ?_
 repeat refine ⟨sd, ?_⟩
 refine k1 (sq fun _ k2 => rgn 1 ?_)
 repeat refine ⟨sd, ?_⟩
 refine k2 (sq fun _ k3 => rgn 1 ?_)
 repeat refine ⟨sd, ?_⟩
 refine k3 (sq fun _ k4 => sq fun _ k5 => rgn 0 ?_)
 repeat refine ⟨sd, ?_⟩
 refine k5 (cd rfl (fun h1 => ?_) (fun h1 => ?_))
 ·refine sq fun _ k6 => ?_
  refine wps_ent (e' := [(0, .p 0 0), (3, .p 10 0), (5, .p 11 0), (6, .p 12 0)]) (σ' := [.cells [.p 1 0], .cells [.p 6 0, .p 5 0, .u (.i .i64 0), .u (.i .i64 200), .u (.i .u64 0), .h 2, .h 3, .h 4], .map [], .map ((enc W).map sent), .map [], .cells [.p 6 0, .u (.i .i64 0), .u (.i .u64 0), .u (.i .i64 1)], .cells [.u (.i .i64 1000), .u (.i .i64 1000), .h 7, .h 8, .h 9], .map vm, .map gm, .row 116 1 pr] ++ [.cells [.u (.s frm), .u (.s to), .u (.b opn), .u (.b false), .u (.i .i64 lim)], .cells [.h 13], .cells [.fn 83 [.p 10 0, .p 11 0]], .row 100 2 []]) ((ent_thawC 11 0 100 2 rfl rfl).trans (entL hc0 [some 0, some 1, some 2, some 3, some 4, some 5, some 6, some 7, some 8, some 9, some 10, some 11, some 12, some 13] rfl rfl mB (by simp only [go_sem, reduceIte, Nat.reduceEqDiff, Nat.reduceAdd, Nat.reduceLT, List.cons_append, List.nil_append]))) ?_
  simp only [List.cons_append, List.nil_append]
  refine rgn 0 ?_
  repeat refine ⟨sd, ?_⟩
  refine callT_atN [0, 1, 2, 3, 4, 5, 6, 7, 8, 9, 10, 11, 12, 13] [_, _, _, _, _, _, _, _, _, _, _, _, _, _] hf rfl rfl ⟨rfl, rfl, rfl, rfl, rfl, rfl, rfl, rfl, rfl, rfl, rfl, rfl, rfl, rfl, trivial⟩ mB mB rfl ?_
  refine fxl ?_
  refine evl ?_
  repeat refine ⟨sd, ?_⟩
  refine k6 (sq fun _ k7 => rgn 0 ?_)
  repeat refine ⟨sd, ?_⟩
  refine k7 ?_
  refine wps_ent (e' := [(4, .u (.fz (RES.map crow) none))]) (σ' := [.cells [.p 1 0], .cells [.p 6 0, .p 5 0, .u (.i .i64 0), .u (.i .i64 200), .u (.i .u64 0), .h 2, .h 3, .h 4], .map [], .map ((enc W).map sent), .map [], .cells [.p 6 0, .u (.i .i64 0), .u (.i .u64 0), .u (.i .i64 1)], .cells [.u (.i .i64 1000), .u (.i .i64 1000), .h 7, .h 8, .h 9], .map vm, .map gm, .row 116 1 pr]) ((entF 14 rfl (e' := [(4, .u (.fz (RES.map crow) none))]) mB rfl).trans (entL hc0 [some 0, some 1, some 2, some 3, some 4, some 5, some 6, some 7, some 8, some 9] rfl rfl mB mB)) ?_
  refine wps_ret ?_
  refine retL [some 0, some 1, some 2, some 3, some 4, some 5, some 6, some 7, some 8, some 9] rfl ⟨trivial, trivial⟩ rfl rfl ?_
  exact mT
 ·exact absurd h1 (by simp)

/-! ### the store -/
def sto (W : PgM) (L S : PV) (last synced : Nat) (v g : Sec) (P : List Pend) : List SObj := [.cells [.p 1 0, .p 2 0, .p 11 0], .cells [.p 2 0], .cells [.p 7 0, .p 6 0, .u (.i .i64 0), .u (.i .i64 200), .u (.i .u64 0), .h 3, .h 4, .h 5], .map [], .map ((enc W).map sent), .map [], .cells [.p 7 0, .u (.i .i64 0), .u (.i .u64 0), .u (.i .i64 1)], .cells [.u (.i .i64 1000), .u (.i .i64 1000), .h 8, .h 9, .h 10], .map (v.map sent), .map (g.map sent), .row 116 1 (P.map prow), .cells [.p 7 0, .u (.i .i64 802), .u (.i .i64 8), .u (.i .i64 16), .u L, .u S, .u (.i .u64 (last : Int)), .u (.i .u64 (synced : Int))]]
/-- a cell that is put, as a change -/
def chrow (c : Cel) : List PV := [.s c.1, .s c.2, .b false]
theorem chrow_at {l : List Cel} {i : Nat} (h : i < l.length) : (l.map chrow).getD i [] = [.s (l.getD i ([], [])).1, .s (l.getD i ([], [])).2, .b false] := by
 rw [List.getD_eq_getElem?_getD, List.getElem?_map, List.getElem?_eq_getElem h, List.getD_eq_getElem?_getD, List.getElem?_eq_getElem h]; rfl
theorem chrow_ok1 (l : List Cel) : ∀ y ∈ l.map chrow, y.length = 3 := by
 intro y hy
 obtain ⟨x, _, rfl⟩ := List.mem_map.1 hy
 rfl
theorem chrow_ok2 (l : List Cel) : ∀ y ∈ l.map chrow, ∀ p ∈ y, PV.one p = true := by
 intro y hy p hp
 obtain ⟨x, _, rfl⟩ := List.mem_map.1 hy
 simp only [chrow, List.mem_cons, List.not_mem_nil, or_false] at hp
 rcases hp with rfl | rfl | rfl <;> rfl

theorem smay_ok (W : PgM) (L S : PV) (last synced : Nat) (v g : Sec) (P : List Pend) (m : Nat) (cs : List Cel) (q : Option Nat) (hC : Cnt W m) (hm : m ≤ 64) (hc1 : cs.length ≤ 9) (hc2 : ∀ c ∈ cs, c.1.length ≤ 240 ∧ c.1.length + c.2.length ≤ 480) : CallT Tryz.prog 49 [.p 0 0, .u (.fz (cs.map chrow) q)] (sto W L S last synced v g P)
  fun r σ => r = .u (.i .i64 0) ∧ σ = sto W L S last synced v g P := by
 have hpg := pages_ok (enc W) (v.map sent) (g.map sent) (P.map prow)
 have hcnt : ((pagesL (enc W) 90).map irow).length = m := by rw [List.length_map, pagesL_count hC.enc]; omega
 have hd1 : decide ((11 : Int) < (cs.length : Int)) = false := decide_eq_false (by omega)
 have hw90 : IntKind.i64.wrap (90 - (m : Int)) = 90 - (m : Int) := wrap64 (by omega) (by omega)
 have hd2 : decide ((90 - (m : Int)) < ((8 + 2 * cs.length : Nat) : Int)) = false := decide_eq_false (by omega)
 unfold sto
 unfold pgr dskC at hpg
 refine cof 50 [.tmp 4] Tryz.func49 Tryz.ntmps49 fun c hnt hc0 => ?_
 refine sq fun _ k1 => rgn 0 ?_
 repeat refine ⟨sd, ?_⟩
 refine k1 (sq fun _ k2 => sq fun _ k3 => rg 0 ?_)
 refine evx hd1 ?_
 repeat refine ⟨sd, ?_⟩
 refine k3 (cd rfl (fun h1 => ?_) (fun h1 => ?_))
 ·exact absurd h1 (by simp)
 ·refine wps_skip (k2 (sq fun _ k4 => rgn 0 ?_))
  repeat refine ⟨sd, ?_⟩
  refine k4 (sq fun _ k5 => sq fun _ k6 => rgn 0 ?_)
  repeat refine ⟨sd, ?_⟩
  refine k6 (bk fun _ k7 => ?_)
  refine wps_loop (fun k e σ => ∃ i : Nat, k = cs.length - i ∧ i ≤ cs.length ∧ e = [(0, .p 0 0), (5, .u (.i .i64 ((8 + 2 * i : Nat) : Int))), (12, .u (.fz (cs.map chrow) q)), (13, .u (.i .i64 (cs.length : Int))), (14, .u (.i .i64 (i : Int)))] ∧ σ = [.cells [.p 1 0, .p 2 0, .p 11 0], .cells [.p 2 0], .cells [.p 7 0, .p 6 0, .u (.i .i64 0), .u (.i .i64 200), .u (.i .u64 0), .h 3, .h 4, .h 5], .map [], .map ((enc W).map sent), .map [], .cells [.p 7 0, .u (.i .i64 0), .u (.i .u64 0), .u (.i .i64 1)], .cells [.u (.i .i64 1000), .u (.i .i64 1000), .h 8, .h 9, .h 10], .map (v.map sent), .map (g.map sent), .row 116 1 (P.map prow), .cells [.p 7 0, .u (.i .i64 802), .u (.i .i64 8), .u (.i .i64 16), .u L, .u S, .u (.i .u64 (last : Int)), .u (.i .u64 (synced : Int))]])
   (e0 := [(0, .p 0 0), (5, .u (.i .i64 8)), (12, .u (.fz (cs.map chrow) q)), (13, .u (.i .i64 (cs.length : Int))), (14, .u (.i .i64 0))]) (σ0 := [.cells [.p 1 0, .p 2 0, .p 11 0], .cells [.p 2 0], .cells [.p 7 0, .p 6 0, .u (.i .i64 0), .u (.i .i64 200), .u (.i .u64 0), .h 3, .h 4, .h 5], .map [], .map ((enc W).map sent), .map [], .cells [.p 7 0, .u (.i .i64 0), .u (.i .u64 0), .u (.i .i64 1)], .cells [.u (.i .i64 1000), .u (.i .i64 1000), .h 8, .h 9, .h 10], .map (v.map sent), .map (g.map sent), .row 116 1 (P.map prow), .cells [.p 7 0, .u (.i .i64 802), .u (.i .i64 8), .u (.i .i64 16), .u L, .u S, .u (.i .u64 (last : Int)), .u (.i .u64 (synced : Int))]]) (entL hc0 [some 0, some 1, some 2, some 3, some 4, some 5, some 6, some 7, some 8, some 9, some 10, some 11] rfl rfl mB mB) ⟨0, rfl, Nat.zero_le _, rfl, rfl⟩ fun KL k e1 σ1 hI hKL => ?_
  obtain ⟨i, rfl, hi, rfl, rfl⟩ := hI
  refine sq fun _ k8 => rgn 0 ?_
  repeat refine ⟨sd, ?_⟩
  refine k8 (sq fun _ k9 => cd rfl (fun h2 => ?_) (fun h2 => ?_))
  ·have hlt : i < cs.length := by simpa using h2
   have hel := chrow_at hlt
   obtain ⟨c0, hcd⟩ : ∃ c0, cs.getD i ([], []) = c0 := ⟨_, rfl⟩
   have hmem : c0 ∈ cs := by rw [← hcd]; exact getD_mem hlt
   have hcm := hc2 c0 hmem
   rw [hcd] at hel
   have hw1 := wi1 i
   have hw2 : IntKind.i64.wrap (((8 + 2 * i : Nat) : Int) + 2) = ((8 + 2 * (i + 1) : Nat) : Int) := (wrap64 (by omega) (by omega)).trans (by omega)
   have hw3 : IntKind.i64.wrap ((c0.1.length : Int) + (c0.2.length : Int)) = ((c0.1.length + c0.2.length : Nat) : Int) := by rw [wrap64 (by omega) (by omega)]; omega
   have hd3 : decide ((240 : Int) < (c0.1.length : Int)) = false := decide_eq_false (by omega)
   have hd4 : decide ((480 : Int) < ((c0.1.length + c0.2.length : Nat) : Int)) = false := decide_eq_false (by omega)
   refine wps_skip (k9 (sq fun _ k10 => bk fun _ k11 => sq fun _ k12 => rg 1 ?_))
   refine evx hel ?_
   repeat refine ⟨sd, ?_⟩
   refine k12 (sq fun _ k13 => rg 0 ?_)
   refine evx hw3 ?_
   repeat refine ⟨sd, ?_⟩
   refine k13 (sq fun _ k14 => sq fun _ k15 => rgn 0 ?_)
   repeat refine ⟨sd, ?_⟩
   refine k15 (cd rfl (fun h3 => ?_) (fun h3 => ?_))
   ·exact absurd h3 (by simp)
   ·refine wps_keep [0, 5, 7, 8, 12, 13, 14] mK ?_
    refine rg 0 ?_
    refine evx hw2 ?_
    repeat refine ⟨sd, ?_⟩
    refine k14 (sq fun _ k16 => rg 0 ?_)
    refine evx2 hd3 hd4 ?_
    repeat refine ⟨sd, ?_⟩
    refine k16 (cd rfl (fun h4 => ?_) (fun h4 => ?_))
    ·exact absurd h4 (by simp)
    ·refine wps_skip (k11 (k10 ?_))
     refine wps_keep [0, 5, 12, 13, 14] mK ?_
     refine rg 0 ?_
     refine evx hw1 ?_
     repeat refine ⟨sd, ?_⟩
     exact hKL _ _ (cs.length - (i + 1)) _ _ (entL hc0 [some 0, some 1, some 2, some 3, some 4, some 5, some 6, some 7, some 8, some 9, some 10, some 11] rfl rfl mB mB) ⟨i + 1, rfl, by omega, rfl, rfl⟩ (by omega)
  ·have hil : i = cs.length := by simp at h2; omega
   subst hil
   refine wps_exit ?_
   simp only [reduceIte, Nat.reduceEqDiff]
   refine k7 (k5 (sq fun _ k17 => sq fun _ k18 => rg 0 ?_))
   refine evx3 hcnt hw90 hd2 ?_
   repeat refine ⟨sd, ?_⟩
   refine callT_at [2, 3, 4, 5, 6, 7, 8, 9, 10] [_, _, _, _, _, _, _, _, _] hpg rfl rfl ⟨rfl, rfl, rfl, rfl, rfl, rfl, rfl, rfl, rfl, trivial⟩ mB mB rfl mR mR ?_
   refine evx3 hcnt hw90 hd2 ?_
   repeat refine ⟨sd, ?_⟩
   refine k18 (cd rfl (fun h5 => ?_) (fun h5 => ?_))
   ·exact absurd h5 (by simp)
   ·refine wps_skip (k17 (sq fun _ k19 => rgn 0 ?_))
    repeat refine ⟨sd, ?_⟩
    refine k19 (wps_ret ?_)
    refine retL [some 0, some 1, some 2, some 3, some 4, some 5, some 6, some 7, some 8, some 9, some 10, some 11] rfl ⟨trivial, trivial⟩ rfl rfl ?_
    exact mT

/-! ### changes as a record's body -/
def chS (c : Cel) : List UInt8 := tput c.1 ++ (0 :: tput c.2)
def chsS (cs : List Cel) : List UInt8 := cs.flatMap chS
def showS (cs : List Cel) : List UInt8 := vput cs.length ++ chsS cs
theorem chsS_app (a b : List Cel) : chsS (a ++ b) = chsS a ++ chsS b := by simp [chsS]
theorem chsS_one (c : Cel) : chsS [c] = chS c := by simp [chsS]
theorem chsS_take (l : List Cel) (k : Nat) : (chsS (l.take k)).length ≤ (chsS l).length := by
 conv => rhs; rw [← List.take_append_drop k l, chsS_app]
 simp
theorem chsS_drop (l : List Cel) (k : Nat) : (chsS (l.drop k)).length ≤ (chsS l).length := by
 conv => rhs; rw [← List.take_append_drop k l, chsS_app]
 simp
theorem chsS_len {l : List Cel} {B : Nat} (h : ∀ c ∈ l, c.1.length + c.2.length ≤ B) (hB : B ≤ 1000) : (chsS l).length ≤ (B + 21) * l.length := by
 induction l with
 | nil => simp [chsS]
 | cons c l ih =>
  have h1 := h c (by simp)
  have h2 := ih fun x hx => h x (by simp [hx])
  have h3 := vput_10 c.1.length (by omega)
  have h4 := vput_10 c.2.length (by omega)
  have e1 : (chsS (c :: l)).length = (vput c.1.length).length + c.1.length + ((vput c.2.length).length + c.2.length + 1) + (chsS l).length := by
   rw [show c :: l = [c] ++ l from rfl, chsS_app, chsS_one, List.length_append]
   simp only [chS, tput, List.length_append, List.length_cons]
  have e2 : (B + 21) * (c :: l).length = (B + 21) * l.length + (B + 21) := by rw [List.length_cons, Nat.mul_add, Nat.mul_one]
  omega

theorem show_ok (cs : List Cel) (q : Option Nat) (hc1 : cs.length ≤ 11) (hc2 : ∀ c ∈ cs, c.1.length + c.2.length ≤ 480) : CallT Tryz.prog 63 [.u (.fz (cs.map chrow) q)] []
  fun r σ => r = .u (.s (showS cs)) ∧ σ = [] := by
 have hcl := chsS_len hc2 (by omega)
 have hw := wnew_ok
 have h10 := vput_10 cs.length (by omega)
 have hnu := wnum_ok [] [cs.length] (some 1) (by simp; omega) (by simp)
 simp only [wrC, wrN, List.map_cons, List.map_nil, urow, vputs, List.flatMap_cons, List.flatMap_nil, List.append_nil, List.nil_append] at hw hnu
 have hwu := wrapu_nat (n := cs.length) (by omega)
 have hby := wbytes_ok (vput cs.length ++ chsS cs) (by simp; omega)
 simp only [wrC] at hby
 refine cof 46 [.tmp 2] Tryz.func63 Tryz.ntmps63 fun c hnt hc0 => ?_
 refine sq fun _ k1 => rgn 0 ?_
 repeat refine ⟨sd, ?_⟩
 refine k1 (sq fun _ k2 => rgn 0 ?_)
 repeat refine ⟨sd, ?_⟩
 refine callT_new hw mB ?_
 refine rtl ?_
 refine evl ?_
 repeat refine ⟨sd, ?_⟩
 refine k2 (sq fun _ k3 => rg 0 ?_)
 refine evx hwu ?_
 repeat refine ⟨sd, ?_⟩
 refine callT_atN [0, 1] [_, _] hnu rfl rfl ⟨rfl, rfl, trivial⟩ mB mB rfl ?_
 refine fxl ?_
 refine evx hwu ?_
 repeat refine ⟨sd, ?_⟩
 refine k3 (sq fun _ k4 => sq fun _ k5 => rgn 0 ?_)
 repeat refine ⟨sd, ?_⟩
 refine k5 (bk fun _ k6 => ?_)
 refine wps_loop (fun k e σ => ∃ i : Nat, k = cs.length - i ∧ i ≤ cs.length ∧ e = [(3, .p 0 0), (15, .u (.fz (cs.map chrow) q)), (16, .u (.i .i64 (cs.length : Int))), (17, .u (.i .i64 (i : Int)))] ∧ σ = [.cells [.h 1, .u (.i .i64 0)], .row 5 1 (bs (vput cs.length ++ chsS (cs.take i)))])
  (e0 := [(3, .p 0 0), (15, .u (.fz (cs.map chrow) q)), (16, .u (.i .i64 (cs.length : Int))), (17, .u (.i .i64 0))]) (σ0 := [.cells [.h 1, .u (.i .i64 0)], .row 5 1 (bs (vput cs.length))]) (entL2 hc0 [some 0, some 2] rfl rfl mB mB) ⟨0, rfl, Nat.zero_le _, rfl, by simp [chsS]⟩ fun KL k e1 σ1 hI hKL => ?_
 obtain ⟨i, rfl, hi, rfl, rfl⟩ := hI
 refine sq fun _ k7 => rgn 0 ?_
 repeat refine ⟨sd, ?_⟩
 refine k7 (sq fun _ k8 => cd rfl (fun h1 => ?_) (fun h1 => ?_))
 ·have hlt : i < cs.length := by simpa using h1
  have hel := chrow_at hlt
  obtain ⟨c0, hcd⟩ : ∃ c0, cs.getD i ([], []) = c0 := ⟨_, rfl⟩
  have hmem : c0 ∈ cs := by rw [← hcd]; exact getD_mem hlt
  have hcm := hc2 c0 hmem
  rw [hcd] at hel
  have hts := gtake_succ (d := (([], []) : Cel)) hlt
  rw [hcd] at hts
  have htk := chsS_take cs i
  have t1 := tput_len c0.1 (by omega)
  have t2 := tput_len c0.2 (by omega)
  obtain ⟨A, hA⟩ : ∃ A, vput cs.length ++ chsS (cs.take i) = A := ⟨_, rfl⟩
  have hAl : A.length ≤ 10 + (chsS cs).length := by rw [← hA, List.length_append]; omega
  have hfin : (A ++ tput c0.1 ++ [0]) ++ tput c0.2 = vput cs.length ++ chsS (cs.take (i + 1)) := by rw [hts, chsS_app, chsS_one, ← hA, chS]; simp
  have hx1 := wtext_ok A [c0.1] (some 1) (by simp) (by simp; omega) (by simp [tputs]; omega)
  have hx2 := wflag_ok (A ++ tput c0.1) false (by simp; omega)
  have hx3 := wtext_ok (A ++ tput c0.1 ++ [0]) [c0.2] (some 1) (by simp) (by simp; omega) (by simp [tputs]; omega)
  simp only [tputs, List.flatMap_cons, List.flatMap_nil, List.append_nil, hfin, Bool.false_eq_true, reduceIte] at hx1 hx2 hx3
  simp only [wrC, wrN, List.map_cons, List.map_nil, trow] at hx1 hx2 hx3
  rw [hA]
  have hw1 := wi1 i
  refine wps_skip (k8 (sq fun _ k9 => bk fun _ k10 => sq fun _ k11 => rg 1 ?_))
  refine evx hel ?_
  repeat refine ⟨sd, ?_⟩
  refine k11 (sq fun _ k12 => rgn 0 ?_)
  repeat refine ⟨sd, ?_⟩
  refine callT_atN [0, 1] [_, _] hx1 rfl rfl ⟨rfl, rfl, trivial⟩ mB mB rfl ?_
  refine fxl ?_
  refine evl ?_
  repeat refine ⟨sd, ?_⟩
  refine k12 (sq fun _ k13 => rgn 0 ?_)
  repeat refine ⟨sd, ?_⟩
  refine callT_atN [0, 3] [_, _] hx2 rfl rfl ⟨rfl, rfl, trivial⟩ mB mB rfl ?_
  refine fxl ?_
  refine evl ?_
  repeat refine ⟨sd, ?_⟩
  refine k13 (sq fun _ k14 => ?_)
  refine wps_keep [3, 5, 15, 16, 17] mK ?_
  refine rgn 0 ?_
  repeat refine ⟨sd, ?_⟩
  refine k14 (cd rfl (fun h2 => ?_) (fun h2 => ?_))
  ·refine rgn 0 ?_
   repeat refine ⟨sd, ?_⟩
   refine callT_atN [0, 4] [_, _] hx3 rfl rfl ⟨rfl, rfl, trivial⟩ mB mB rfl ?_
   refine fxl ?_
   refine evl ?_
   repeat refine ⟨sd, ?_⟩
   refine k10 (k9 ?_)
   refine wps_keep [3, 15, 16, 17] mK ?_
   refine rg 0 ?_
   refine evx hw1 ?_
   repeat refine ⟨sd, ?_⟩
   exact hKL _ _ (cs.length - (i + 1)) _ _ (entL2 hc0 [some 0, some 5] rfl rfl mB mB) ⟨i + 1, rfl, by omega, rfl, rfl⟩ (by omega)
  ·exact absurd h2 (by simp)
 ·have hil : i = cs.length := by simp at h1; omega
  subst hil
  rw [List.take_length]
  refine wps_exit ?_
  simp only [reduceIte, Nat.reduceEqDiff]
  refine k6 (k4 (sq fun _ k15 => rgn 0 ?_))
  repeat refine ⟨sd, ?_⟩
  refine callT_at [0, 1] [_, _] hby rfl rfl ⟨rfl, rfl, trivial⟩ mB mB rfl mR mR ?_
  refine evl ?_
  repeat refine ⟨sd, ?_⟩
  refine k15 (sq fun _ k16 => rg 0 ?_)
  refine evx @bytesOf_bs ?_
  repeat refine ⟨sd, ?_⟩
  refine k16 (wps_ret ?_)
  refine retL [] rfl ⟨trivial, trivial⟩ rfl rfl ?_
  simp only [go_sem, and_true, true_and, implies_true, reduceIte, Nat.reduceEqDiff, Nat.reduceAdd, Nat.reduceLT, showS]

theorem sparse_ok (cs : List Cel) (hc1 : cs.length ≤ 11) (hc2 : ∀ c ∈ cs, c.1.length + c.2.length ≤ 480) : CallT Tryz.prog 48 [.u (.s (showS cs))] []
  fun r σ => r = .tup [.u (.fz (cs.map chrow) none), .u (.b true)] ∧ σ = [] := by
 have hcl := chsS_len hc2 (by omega)
 have h10 := vput_10 cs.length (by omega)
 have hsl : (showS cs).length ≤ 100000 := by rw [showS, List.length_append]; omega
 have hrd := read_ok (showS cs) none (by omega)
 have hcn := rcount_ok cs.length (chsS cs) 11 (by omega) (by omega) (by omega)
 rw [show ((11 : Nat) : Int) = 11 from rfl, show vput cs.length ++ chsS cs = showS cs from rfl] at hcn
 have hen := rend_ok
 simp only [rdC] at hrd hcn hen
 refine cof 34 [.tmp 2, .tmp 3] Tryz.func48 Tryz.ntmps48 fun c hnt hc0 => ?_
 refine sq fun _ k1 => rgn 0 ?_
 repeat refine ⟨sd, ?_⟩
 refine k1 (sq fun _ k2 => rgn 0 ?_)
 repeat refine ⟨sd, ?_⟩
 refine callT_new hrd mB ?_
 refine rtl ?_
 refine evl ?_
 repeat refine ⟨sd, ?_⟩
 refine k2 (sq fun _ k3 => rgn 0 ?_)
 repeat refine ⟨sd, ?_⟩
 refine k3 (sq fun _ k4 => sq fun _ k5 => rgn 0 ?_)
 repeat refine ⟨sd, ?_⟩
 refine callT_at [0] [_] hcn rfl rfl ⟨rfl, trivial⟩ mB mB rfl mR mR ?_
 refine evl ?_
 repeat refine ⟨sd, ?_⟩
 refine k5 (bk fun _ k6 => ?_)
 refine wps_loop (fun k e σ => ∃ i : Nat, k = cs.length - i ∧ i ≤ cs.length ∧ e = [(4, .p 0 0), (5, .h 1), (11, .u (.i .i64 (cs.length : Int))), (12, .u (.i .i64 (i : Int)))] ∧ σ = [.cells [.u (.fz (bs (chsS (cs.drop i))) none), .u (.i .i64 0)], .row 85 3 ((cs.take i).map chrow)])
  (e0 := [(4, .p 0 0), (5, .h 1), (11, .u (.i .i64 (cs.length : Int))), (12, .u (.i .i64 0))]) (σ0 := [.cells [.u (.fz (bs (chsS cs)) none), .u (.i .i64 0)], .row 85 3 []]) ((ent_thaw 85 3 (t := 5) rfl).trans (entL hc0 [some 0, some 1] rfl rfl mB mB)) ⟨0, rfl, Nat.zero_le _, rfl, rfl⟩ fun KL k e1 σ1 hI hKL => ?_
 obtain ⟨i, rfl, hi, rfl, rfl⟩ := hI
 refine sq fun _ k7 => rgn 0 ?_
 repeat refine ⟨sd, ?_⟩
 refine k7 (sq fun _ k8 => cd rfl (fun h1 => ?_) (fun h1 => ?_))
 ·have hlt : i < cs.length := by simpa using h1
  obtain ⟨c0, hcd⟩ : ∃ c0, cs.getD i ([], []) = c0 := ⟨_, rfl⟩
  have hmem : c0 ∈ cs := by rw [← hcd]; exact getD_mem hlt
  have hcm := hc2 c0 hmem
  have hts := gtake_succ (d := (([], []) : Cel)) hlt
  rw [hcd] at hts
  have hdc := drop_cons hlt
  rw [hcd] at hdc
  have hdl := chsS_drop cs i
  have hcd2 : chsS (cs.drop i) = tput c0.1 ++ (0 :: (tput c0.2 ++ chsS (cs.drop (i + 1)))) := by rw [hdc]; simp [chsS, chS]
  have hdl2 := congrArg List.length hcd2
  simp only [List.length_append, List.length_cons] at hdl2
  have hx1 := rtext_ok c0.1 (0 :: (tput c0.2 ++ chsS (cs.drop (i + 1)))) (by omega) (by simp; omega)
  have hx2 := rflag_ok false (tput c0.2 ++ chsS (cs.drop (i + 1))) (by simp; omega)
  have hx3 := rtext_ok c0.2 (chsS (cs.drop (i + 1))) (by omega) (by omega)
  simp only [rdC, Bool.false_eq_true, reduceIte] at hx1 hx2 hx3
  have hw1 := wi1 i
  have hr1 := chrow_ok1 (cs.take i)
  have hr2 := chrow_ok2 (cs.take i)
  rw [hcd2]
  refine wps_skip (k8 (sq fun _ k9 => bk fun _ k10 => sq fun _ k11 => rgn 1 ?_))
  repeat refine ⟨sd, ?_⟩
  refine callT_at [0] [_] hx1 rfl rfl ⟨rfl, trivial⟩ mB mB rfl mR mR ?_
  refine evl ?_
  repeat refine ⟨sd, ?_⟩
  refine callT_at [0] [_] hx2 rfl rfl ⟨rfl, trivial⟩ mB mB rfl mR mR ?_
  refine evl ?_
  repeat refine ⟨sd, ?_⟩
  refine k11 (sq fun _ k12 => sq fun _ k13 => rgn 0 ?_)
  repeat refine ⟨sd, ?_⟩
  refine k13 (cd rfl (fun h2 => ?_) (fun h2 => ?_))
  ·refine rgn 0 ?_
   repeat refine ⟨sd, ?_⟩
   refine callT_at [0] [_] hx3 rfl rfl ⟨rfl, trivial⟩ mB mB rfl mR mR ?_
   refine evl ?_
   repeat refine ⟨sd, ?_⟩
   refine k12 ?_
   refine wps_keep [4, 5, 6, 11, 12] mK ?_
   refine rgn 1 ?_
   repeat refine ⟨sd, ?_⟩
   refine k10 (k9 (rg 0 ?_))
   refine evx hw1 ?_
   repeat refine ⟨sd, ?_⟩
   exact hKL _ _ (cs.length - (i + 1)) _ [.cells [.u (.fz (bs (chsS (cs.drop (i + 1)))) none), .u (.i .i64 0)], .row 85 3 ((cs.take (i + 1)).map chrow)] (entL hc0 [some 0, some 3] rfl rfl mB (by rw [hts, List.map_append]; simp only [go_sem, reduceIte, Nat.reduceEqDiff, Nat.reduceAdd, Nat.reduceLT, List.map_cons, List.map_nil, chrow])) ⟨i + 1, rfl, by omega, rfl, rfl⟩ (by omega)
  ·exact absurd h2 (by simp)
 ·have hil : i = cs.length := by simp at h1; omega
  subst hil
  rw [List.take_length, List.drop_length, show chsS [] = [] from rfl]
  refine wps_exit ?_
  simp only [reduceIte, Nat.reduceEqDiff]
  refine k6 (k4 (sq fun _ k14 => rgn 0 ?_))
  repeat refine ⟨sd, ?_⟩
  refine callT_at [0] [_] hen rfl rfl ⟨rfl, trivial⟩ mB mB rfl mR mR ?_
  refine evl ?_
  repeat refine ⟨sd, ?_⟩
  refine k14 ?_
  refine wps_ent (e' := [(2, .u (.fz (cs.map chrow) none)), (3, .u (.b true))]) (σ' := []) ((entF 1 rfl (e' := [(2, .u (.fz (cs.map chrow) none)), (3, .u (.b true))]) mB rfl).trans (entL hc0 [] rfl rfl mB mB)) ?_
  refine wps_ret ?_
  refine retL [] mA mO rfl rfl ?_
  exact mT

/-- a cell put into a tree of so many pages -/
structure Put1 (W : PgM) (m : Nat) (c0 : Cel) (W' : PgM) (m' : Nat) : Prop where
 cnt : Cnt W m
 le : m ≤ 80
 k1 : c0.1.length ≤ 240
 k2 : c0.1.length + c0.2.length ≤ 480
 up : ∃ (way : List Stp) (s : Stp), Way W c0.1 0 (way ++ [s]) ∧ way.length ≤ 7 ∧ PgOK s.pg ∧ s.id < 1000 ∧ Up W' W m way s.id ⟨s.pg.leaf, s.pg.next, putC c0 s.pg.cells⟩
 cnt' : Cnt W' m'
inductive Puts : PgM → Nat → List Cel → PgM → Nat → Prop
 | nil (W : PgM) (m : Nat) : Puts W m [] W m
 | cons {W : PgM} {m : Nat} {c0 : Cel} {W1 : PgM} {m1 : Nat} {cs : List Cel} {W' : PgM} {m' : Nat} (h1 : Put1 W m c0 W1 m1) (h2 : Puts W1 m1 cs W' m') : Puts W m (c0 :: cs) W' m'

theorem sdo1_ok (W W' : PgM) (m m' : Nat) (c0 : Cel) (L S : PV) (last synced : Nat) (v g : Sec) (P : List Pend) (h : Put1 W m c0 W' m') : CallT Tryz.prog 80 [.agg [.u (.s c0.1), .u (.s c0.2), .u (.b false)], .p 12 0] (sto W L S last synced v g P ++ [.cells [.p 0 0]])
  fun r σ => r = .tup [] ∧ σ = sto W' L S last synced v g P ++ [.cells [.p 0 0]] := by
 obtain ⟨hC, hm, k1, k2, ⟨way, s, h1, h2, h3, h4, h5⟩, _⟩ := h
 have hp := tput_ok W' W (v.map sent) (g.map sent) (P.map prow) m way s c0 hC hm h1 h2 h3 h4 h5 k1 k2
 unfold sto
 unfold tre dskC at hp
 refine cof 22 [] Tryz.func80 Tryz.ntmps80 fun c hnt hc0 => ?_
 simp only [List.cons_append, List.nil_append]
 refine wps_seq fun K1 hK1 => rgn 1 ?_
 repeat refine ⟨sd, ?_⟩
 refine hK1 _ _ (wps_seq fun K2 hK2 => sq fun _ k3 => rgn 0 ?_)
 repeat refine ⟨sd, ?_⟩
 refine k3 (cd rfl (fun h1 => ?_) (fun h1 => ?_))
 ·exact absurd h1 (by simp)
 ·refine wps_skip (hK2 _ _ (dr 0 [0, 1, 3, 7, 0, 16, 0, 64, 240, 511] mixed ?_))
  refine evl ?_
  repeat refine ⟨sd, ?_⟩
  refine callE_at [1, 2, 3, 4, 5, 6, 7, 8, 9, 10] [_, _, _, _, _, _, _, _, _, _] hp rfl rfl ⟨rfl, rfl, rfl, rfl, rfl, rfl, rfl, rfl, rfl, rfl, trivial⟩ mB mB rfl mR mR ?_
  refine evl ?_
  repeat refine ⟨sd, ?_⟩
  refine retL [some 0, some 1, some 2, some 3, some 4, some 5, some 6, some 7, some 8, some 9, some 10, some 11, some 12] rfl trivial rfl rfl ?_
  exact mU

theorem sdo_ok (W W' : PgM) (m m' : Nat) (cs : List Cel) (q : Option Nat) (L S : PV) (last synced : Nat) (v g : Sec) (P : List Pend) (h : Puts W m cs W' m') (hl : cs.length ≤ 100) : CallT Tryz.prog 50 [.p 0 0, .u (.fz (cs.map chrow) q)] (sto W L S last synced v g P)
  fun r σ => r = .tup [] ∧ σ = sto W' L S last synced v g P := by
 have hd := fun W m c0 W1 m1 h => sdo1_ok W W1 m m1 c0 L S last synced v g P h
 unfold sto at *
 simp only [List.cons_append, List.nil_append] at hd
 refine cof 18 [] Tryz.func50 Tryz.ntmps50 fun c hnt hc0 => ?_
 replace hc0 : c.β0.length = 12 := hc0
 refine sq fun _ k1 => rgn 1 ?_
 repeat refine ⟨sd, ?_⟩
 refine k1 (sq fun _ k2 => rgn 0 ?_)
 repeat refine ⟨sd, ?_⟩
 refine k2 (sq fun _ k3 => rgn 0 ?_)
 repeat refine ⟨sd, ?_⟩
 refine k3 (bk fun _ k4 => ?_)
 refine wps_loop (fun k e σ => ∃ (i : Nat) (W : PgM) (m : Nat), k = cs.length - i ∧ i ≤ cs.length ∧ Puts W m (cs.drop i) W' m' ∧ e = [(4, .fn 80 [.p 12 0]), (8, .u (.fz (cs.map chrow) q)), (9, .u (.i .i64 (cs.length : Int))), (10, .u (.i .i64 (i : Int)))] ∧ σ = [.cells [.p 1 0, .p 2 0, .p 11 0], .cells [.p 2 0], .cells [.p 7 0, .p 6 0, .u (.i .i64 0), .u (.i .i64 200), .u (.i .u64 0), .h 3, .h 4, .h 5], .map [], .map ((enc W).map sent), .map [], .cells [.p 7 0, .u (.i .i64 0), .u (.i .u64 0), .u (.i .i64 1)], .cells [.u (.i .i64 1000), .u (.i .i64 1000), .h 8, .h 9, .h 10], .map (v.map sent), .map (g.map sent), .row 116 1 (P.map prow), .cells [.p 7 0, .u (.i .i64 802), .u (.i .i64 8), .u (.i .i64 16), .u L, .u S, .u (.i .u64 (last : Int)), .u (.i .u64 (synced : Int))]] ++ [.cells [.p 0 0]])
  (e0 := [(4, .fn 80 [.p 12 0]), (8, .u (.fz (cs.map chrow) q)), (9, .u (.i .i64 (cs.length : Int))), (10, .u (.i .i64 0))]) (σ0 := [.cells [.p 1 0, .p 2 0, .p 11 0], .cells [.p 2 0], .cells [.p 7 0, .p 6 0, .u (.i .i64 0), .u (.i .i64 200), .u (.i .u64 0), .h 3, .h 4, .h 5], .map [], .map ((enc W).map sent), .map [], .cells [.p 7 0, .u (.i .i64 0), .u (.i .u64 0), .u (.i .i64 1)], .cells [.u (.i .i64 1000), .u (.i .i64 1000), .h 8, .h 9, .h 10], .map (v.map sent), .map (g.map sent), .row 116 1 (P.map prow), .cells [.p 7 0, .u (.i .i64 802), .u (.i .i64 8), .u (.i .i64 16), .u L, .u S, .u (.i .u64 (last : Int)), .u (.i .u64 (synced : Int))]] ++ [.cells [.p 0 0]]) (entL hc0 [some 0, some 1, some 2, some 3, some 4, some 5, some 6, some 7, some 8, some 9, some 10, some 11, some 12] rfl rfl mB mB) ⟨0, W, m, rfl, Nat.zero_le _, h, rfl, rfl⟩ fun KL k e1 σ1 hI hKL => ?_
 obtain ⟨i, W, m, rfl, hi, hP, rfl, rfl⟩ := hI
 simp only [List.cons_append, List.nil_append]
 refine sq fun _ k5 => rgn 0 ?_
 repeat refine ⟨sd, ?_⟩
 refine k5 (sq fun _ k6 => cd rfl (fun h1 => ?_) (fun h1 => ?_))
 ·have hlt : i < cs.length := by simpa using h1
  have hel := chrow_at hlt
  obtain ⟨c0, hcd⟩ : ∃ c0, cs.getD i ([], []) = c0 := ⟨_, rfl⟩
  rw [hcd] at hel
  rw [drop_cons hlt, hcd] at hP
  cases hP with | @cons _ _ _ W1 m1 _ _ _ hp1 hp2 =>
  have hd1 := hd W m c0 W1 m1 hp1
  have hw1 := wi1 i
  refine wps_skip (k6 (sq fun _ k7 => bk fun _ k8 => sq fun _ k9 => rg 1 ?_))
  refine evx hel ?_
  repeat refine ⟨sd, ?_⟩
  refine k9 (rgn 0 ?_)
  repeat refine ⟨sd, ?_⟩
  refine callT_at [0, 1, 2, 3, 4, 5, 6, 7, 8, 9, 10, 11, 12] [_, _, _, _, _, _, _, _, _, _, _, _, _] hd1 rfl rfl ⟨rfl, rfl, rfl, rfl, rfl, rfl, rfl, rfl, rfl, rfl, rfl, rfl, rfl, trivial⟩ mB mB rfl mR mR ?_
  refine evl ?_
  repeat refine ⟨sd, ?_⟩
  refine k8 (k7 (rg 0 ?_))
  refine evx hw1 ?_
  repeat refine ⟨sd, ?_⟩
  exact hKL _ _ (cs.length - (i + 1)) _ ([.cells [.p 1 0, .p 2 0, .p 11 0], .cells [.p 2 0], .cells [.p 7 0, .p 6 0, .u (.i .i64 0), .u (.i .i64 200), .u (.i .u64 0), .h 3, .h 4, .h 5], .map [], .map ((enc W1).map sent), .map [], .cells [.p 7 0, .u (.i .i64 0), .u (.i .u64 0), .u (.i .i64 1)], .cells [.u (.i .i64 1000), .u (.i .i64 1000), .h 8, .h 9, .h 10], .map (v.map sent), .map (g.map sent), .row 116 1 (P.map prow), .cells [.p 7 0, .u (.i .i64 802), .u (.i .i64 8), .u (.i .i64 16), .u L, .u S, .u (.i .u64 (last : Int)), .u (.i .u64 (synced : Int))]] ++ [.cells [.p 0 0]]) (entL hc0 [some 0, some 1, some 2, some 3, some 4, some 5, some 6, some 7, some 8, some 9, some 10, some 11, some 12] rfl rfl mB (by simp only [go_sem, reduceIte, Nat.reduceEqDiff, Nat.reduceAdd, Nat.reduceLT, List.cons_append, List.nil_append])) ⟨i + 1, W1, m1, rfl, by omega, hp2, rfl, rfl⟩ (by omega)
 ·have hil : i = cs.length := by simp at h1; omega
  subst hil
  rw [List.drop_length] at hP
  cases hP
  refine wps_exit ?_
  simp only [reduceIte, Nat.reduceEqDiff]
  refine k4 ?_
  refine retL [some 0, some 1, some 2, some 3, some 4, some 5, some 6, some 7, some 8, some 9, some 10, some 11] rfl trivial rfl rfl ?_
  exact mT
end Go.Proofs.YtefipnajpabfgaaGreatDoor
