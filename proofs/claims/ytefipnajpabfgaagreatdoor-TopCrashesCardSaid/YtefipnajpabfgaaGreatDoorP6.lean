/- Part 6 of the proof: what functions of the program do, and plain facts on what they compute. -/
import Derived.Test.YtefipnajpabfgaaGreatDoorP5
set_option linter.all false
set_option maxRecDepth 40000
set_option maxHeartbeats 16000000
set_option linter.unusedSimpArgs false
set_option linter.unusedVariables false
namespace Go.Proofs.YtefipnajpabfgaaGreatDoor
open Go.Nm

/-! ### is a segment in use -/
def segIdx (i : Nat) : Nat → List Seg → Int
 | _, [] => -1
 | k, s :: r => if s.1 = i then (k : Int) else segIdx i (k + 1) r
def usedB (i : Nat) (l : List Seg) : Bool := l.any fun s => s.1 == i
theorem segIdx_used (i : Nat) : ∀ (l : List Seg) (k : Nat), decide (0 ≤ segIdx i k l) = usedB i l
 | [], k => rfl
 | s :: r, k => by
  rw [usedB, List.any_cons]
  by_cases h : s.1 = i
  ·have h1 : segIdx i k (s :: r) = (k : Int) := by rw [segIdx, if_pos h]
   rw [h1]; simp [h]
  ·have h1 : segIdx i k (s :: r) = segIdx i (k + 1) r := by rw [segIdx, if_neg h]
   have h2 : (s.1 == i) = false := by simpa using h
   rw [h1, segIdx_used i r (k + 1), h2]; rfl
theorem seg_at {l : List Seg} {i : Nat} (h : i < l.length) : (l.map segrow).getD i [] = [.i .i64 ((l.getD i (0, 0, 0)).1 : Int), .i .u64 ((l.getD i (0, 0, 0)).2.1 : Int), .i .u64 ((l.getD i (0, 0, 0)).2.2 : Int)] := by
 rw [List.getD_eq_getElem?_getD, List.getElem?_map, List.getElem?_eq_getElem h, List.getD_eq_getElem?_getD, List.getElem?_eq_getElem h]; rfl
theorem segrow_ok1 (l : List Seg) : ∀ y ∈ l.map segrow, y.length = 3 := by
 intro y hy
 obtain ⟨x, _, rfl⟩ := List.mem_map.1 hy
 rfl
theorem segrow_ok2 (l : List Seg) : ∀ y ∈ l.map segrow, ∀ p ∈ y, PV.one p = true := by
 intro y hy p hp
 obtain ⟨x, _, rfl⟩ := List.mem_map.1 hy
 simp only [segrow, List.mem_cons, List.not_mem_nil, or_false] at hp
 rcases hp with rfl | rfl | rfl <;> rfl

theorem used1_ok (s : Seg) (i : Nat) : CallT Tryz.prog 116 [.agg [.u (.i .i64 (s.1 : Int)), .u (.i .u64 (s.2.1 : Int)), .u (.i .u64 (s.2.2 : Int))], .p 0 0] [.cells [.u (.i .i64 (i : Int))]]
  fun r σ => r = .u (.b (((s.1 : Int) == (i : Int)))) ∧ σ = [.cells [.u (.i .i64 (i : Int))]] := by
 refine cof 8 [.tmp 3] Tryz.func116 Tryz.ntmps116 fun c hnt hc0 => ?_
 refine sq fun _ k1 => rgn 1 ?_
 repeat refine ⟨sd, ?_⟩
 refine k1 (sq fun _ k2 => rgn 0 ?_)
 repeat refine ⟨sd, ?_⟩
 refine k2 (wps_ret ?_)
 refine retL [some 0] rfl ⟨trivial, trivial⟩ rfl rfl ?_
 exact mT

theorem segidx_ok (l : List Seg) (q : Option Nat) (i : Nat) (hl : l.length ≤ 10000) : CallT Tryz.prog 142 [.u (.fz (l.map segrow) q), .fn 116 [.p 0 0]] [.cells [.u (.i .i64 (i : Int))]]
  fun r σ => r = .u (.i .i64 (segIdx i 0 l)) ∧ σ = [.cells [.u (.i .i64 (i : Int))]] := by
 obtain ⟨X, hX⟩ : ∃ X, segIdx i 0 l = X := ⟨_, rfl⟩
 rw [hX]
 refine cof 19 [.tmp 4] Tryz.func142 Tryz.ntmps142 fun c hnt hc0 => ?_
 refine sq fun _ k1 => rgn 0 ?_
 repeat refine ⟨sd, ?_⟩
 refine k1 (sq fun _ k2 => sq fun _ k3 => rgn 0 ?_)
 repeat refine ⟨sd, ?_⟩
 refine k3 (bk fun _ k4 => ?_)
 refine wps_loop (fun m e σ => ∃ k : Nat, m = l.length - k ∧ k ≤ l.length ∧ segIdx i k (l.drop k) = X ∧ e = [(0, .u (.fz (l.map segrow) q)), (1, .fn 116 [.p 0 0]), (7, .u (.i .i64 (l.length : Int))), (8, .u (.i .i64 (k : Int)))] ∧ σ = [.cells [.u (.i .i64 (i : Int))]])
  (e0 := [(0, .u (.fz (l.map segrow) q)), (1, .fn 116 [.p 0 0]), (7, .u (.i .i64 (l.length : Int))), (8, .u (.i .i64 0))]) (σ0 := [.cells [.u (.i .i64 (i : Int))]]) (entL hc0 [some 0] rfl rfl mB mB) ⟨0, rfl, by omega, hX, rfl, rfl⟩ fun KL m e1 σ1 hI hKL => ?_
 obtain ⟨k, rfl, hk, hx, rfl, rfl⟩ := hI
 refine sq fun _ k5 => rgn 0 ?_
 repeat refine ⟨sd, ?_⟩
 refine k5 (sq fun _ k6 => cd rfl (fun h1 => ?_) (fun h1 => ?_))
 ·have hlt : k < l.length := by simpa using h1
  have hel := seg_at hlt
  rw [gdrop_cons (d := (0, 0, 0)) hlt, segIdx] at hx
  have hw1 := wi1 k
  have hf := used1_ok (l.getD k (0, 0, 0)) i
  refine wps_skip (k6 (sq fun _ k7 => bk fun _ k8 => sq fun _ k9 => rgn 0 ?_))
  repeat refine ⟨sd, ?_⟩
  refine k9 (sq fun _ k10 => rg 0 ?_)
  refine evx hel ?_
  repeat refine ⟨sd, ?_⟩
  refine callT_at [0] [_] hf rfl rfl ⟨rfl, trivial⟩ mB mB rfl mR mR ?_
  refine evx hel ?_
  repeat refine ⟨sd, ?_⟩
  refine k10 (cd rfl (fun h2 => ?_) (fun h2 => ?_))
  ·have hii : (l.getD k (0, 0, 0)).1 = i := by
    have := beq_iff_eq.1 h2
    omega
   rw [if_pos hii] at hx
   refine sq fun _ k11 => rgn 0 ?_
   repeat refine ⟨sd, ?_⟩
   refine k11 (wps_ret ?_)
   refine retL [some 0] rfl ⟨trivial, trivial⟩ rfl rfl ?_
   simp only [go_sem, and_true, true_and, implies_true, reduceIte, Nat.reduceEqDiff, Nat.reduceAdd, Nat.reduceLT, hx]
  ·have hii : ¬ (l.getD k (0, 0, 0)).1 = i := by
    have := beq_eq_false_iff_ne.1 h2
    omega
   rw [if_neg hii] at hx
   refine wps_skip (k8 (k7 (rg 0 ?_)))
   refine evx hw1 ?_
   repeat refine ⟨sd, ?_⟩
   exact hKL _ _ (l.length - (k + 1)) _ _ (entL hc0 [some 0] rfl rfl mB mB) ⟨k + 1, rfl, by omega, hx, rfl, rfl⟩ (by omega)
 ·have hk2 : k = l.length := by simp at h1; omega
  subst hk2
  rw [List.drop_length] at hx
  simp only [segIdx] at hx
  refine wps_exit ?_
  simp only [reduceIte, Nat.reduceEqDiff]
  refine k4 (k2 (sq fun _ k12 => rgn 0 ?_))
  repeat refine ⟨sd, ?_⟩
  refine k12 (wps_ret ?_)
  refine retL [some 0] rfl ⟨trivial, trivial⟩ rfl rfl ?_
  simp only [go_sem, and_true, true_and, implies_true, reduceIte, Nat.reduceEqDiff, Nat.reduceAdd, Nat.reduceLT, hx]

theorem segcont_ok (l : List Seg) (q : Option Nat) (i : Nat) (hl : l.length ≤ 10000) : CallT Tryz.prog 115 [.u (.fz (l.map segrow) q), .fn 116 [.p 0 0]] [.cells [.u (.i .i64 (i : Int))]]
  fun r σ => r = .u (.b (usedB i l)) ∧ σ = [.cells [.u (.i .i64 (i : Int))]] := by
 have h := segidx_ok l q i hl
 refine cof 9 [.tmp 4] Tryz.func115 Tryz.ntmps115 fun c hnt hc0 => ?_
 refine sq fun _ k1 => rgn 0 ?_
 repeat refine ⟨sd, ?_⟩
 refine k1 (sq fun _ k2 => rgn 0 ?_)
 repeat refine ⟨sd, ?_⟩
 refine callT_at [0] [_] h rfl rfl ⟨rfl, trivial⟩ mB mB rfl mR mR ?_
 refine evl ?_
 repeat refine ⟨sd, ?_⟩
 refine k2 (wps_ret ?_)
 refine retL [some 0] rfl ⟨trivial, trivial⟩ rfl rfl ?_
 simp only [go_sem, and_true, true_and, implies_true, reduceIte, Nat.reduceEqDiff, Nat.reduceAdd, Nat.reduceLT, segIdx_used]

theorem used_ok (l : List Seg) (q : Option Nat) (S : PV) (last synced : Nat) (v g : Sec) (P : List Pend) (i : Nat) (hl : l.length ≤ 10000) : CallT Tryz.prog 75 [.p 0 0, .u (.i .i64 (i : Int))] (wlg (.fz (l.map segrow) q) S last synced v g P)
  fun r σ => r = .u (.b (usedB i l)) ∧ σ = wlg (.fz (l.map segrow) q) S last synced v g P := by
 have h := segcont_ok l q i hl
 unfold wlg logC dskC
 refine cof 11 [.tmp 4] Tryz.func75 Tryz.ntmps75 fun c hnt hc0 => ?_
 refine sq fun _ k1 => rgn 1 ?_
 repeat refine ⟨sd, ?_⟩
 refine k1 (sq fun _ k2 => rgn 0 ?_)
 repeat refine ⟨sd, ?_⟩
 refine callT_at [5] [_] h rfl rfl ⟨rfl, trivial⟩ mB mB rfl mR mR ?_
 refine evl ?_
 repeat refine ⟨sd, ?_⟩
 refine k2 (wps_ret ?_)
 refine retL [some 0, some 1, some 2, some 3, some 4] rfl ⟨trivial, trivial⟩ rfl rfl ?_
 exact mT

theorem segclone_ok (l : List Seg) (q : Option Nat) (hl : l.length ≤ 10000) : CallT Tryz.prog 97 [.u (.fz (l.map segrow) q)] []
  fun r σ => r = .h 0 ∧ σ = [] ++ [.row 169 3 (l.map segrow)] := by
 have h1 := segrow_ok1 l
 have h2 := segrow_ok2 l
 refine cof 8 [.tmp 2] Tryz.func97 Tryz.ntmps97 fun c hnt hc0 => ?_
 refine sq fun _ k1 => rgn 0 ?_
 repeat refine ⟨sd, ?_⟩
 refine k1 (sq fun _ k2 => sq fun _ k3 => ?_)
 refine wps_nilL (els := l.map segrow) (q := q) (by rw [hnt]; decide) (by rw [hnt]; decide) Tryz.underlying149 rfl fun b hb => ?_
 refine k3 (cd rfl (fun h1 => ?_) (fun h1 => ?_))
 ·have hnil : l = [] := by simpa using hb h1
  subst hnil
  refine sq fun _ k4 => rgn 0 ?_
  repeat refine ⟨sd, ?_⟩
  refine k4 ?_
  refine wps_ent (e' := [(2, .h 0)]) (σ' := [.row 169 3 []]) ((ent_thaw 169 3 (t := 2) rfl).trans (entL hc0 [some 0] rfl rfl mB mB)) ?_
  refine wps_ret ?_
  refine retL [some 0] rfl ⟨trivial, trivial⟩ rfl rfl ?_
  simp only [go_sem, and_true, true_and, implies_true, reduceIte, Nat.reduceEqDiff, Nat.reduceAdd, Nat.reduceLT, List.map_nil, List.nil_append]
 ·refine wps_skip (k2 (sq fun _ k5 => rgn 1 ?_))
  repeat refine ⟨sd, ?_⟩
  refine k5 (wps_ret ?_)
  refine retL [some 0] rfl ⟨trivial, trivial⟩ rfl rfl ?_
  simp only [go_sem, and_true, true_and, implies_true, reduceIte, Nat.reduceEqDiff, Nat.reduceAdd, Nat.reduceLT, List.map_nil, List.nil_append]

theorem bclone_ok (l : List UInt8) (q : Option Nat) (hl : l.length ≤ 100000) : CallT Tryz.prog 98 [.u (.fz (bs l) q)] []
  fun r σ => r = .h 0 ∧ σ = [] ++ [.row 5 1 (bs l)] := by
 refine cof 8 [.tmp 2] Tryz.func98 Tryz.ntmps98 fun c hnt hc0 => ?_
 refine sq fun _ k1 => rgn 0 ?_
 repeat refine ⟨sd, ?_⟩
 refine k1 (sq fun _ k2 => sq fun _ k3 => ?_)
 refine wps_nilL (els := bs l) (q := q) (by rw [hnt]; decide) (by rw [hnt]; decide) Tryz.underlying136 rfl fun b hb => ?_
 refine k3 (cd rfl (fun h1 => ?_) (fun h1 => ?_))
 ·have hnil : l = [] := by
   have := congrArg List.length (hb h1)
   rw [bs_len] at this
   exact List.eq_nil_of_length_eq_zero this
  subst hnil
  refine sq fun _ k4 => rgn 0 ?_
  repeat refine ⟨sd, ?_⟩
  refine k4 ?_
  refine wps_ent (e' := [(2, .h 0)]) (σ' := [.row 5 1 []]) ((ent_thaw 5 1 (t := 2) rfl).trans (entL hc0 [some 0] rfl rfl mB mB)) ?_
  refine wps_ret ?_
  refine retL [some 0] rfl ⟨trivial, trivial⟩ rfl rfl ?_
  simp only [go_sem, and_true, true_and, implies_true, reduceIte, Nat.reduceEqDiff, Nat.reduceAdd, Nat.reduceLT, bs_nil, List.nil_append]
 ·refine wps_skip (k2 (sq fun _ k5 => rgn 1 ?_))
  repeat refine ⟨sd, ?_⟩
  refine k5 (wps_ret ?_)
  refine retL [some 0] rfl ⟨trivial, trivial⟩ rfl rfl ?_
  simp only [go_sem, and_true, true_and, implies_true, reduceIte, Nat.reduceEqDiff, Nat.reduceAdd, Nat.reduceLT, bs_nil, List.nil_append]

theorem room_ok (L S : PV) (last synced : Nat) (v g : Sec) (P : List Pend) : CallT Tryz.prog 96 [.p 0 0] (wlg L S last synced v g P)
  fun r σ => r = .u (.i .i64 8192) ∧ σ = wlg L S last synced v g P := by
 have hw8 : IntKind.i64.wrap (16 * 512) = 8192 := by decide
 unfold wlg logC dskC
 refine cof 8 [.tmp 2] Tryz.func96 Tryz.ntmps96 fun c hnt hc0 => ?_
 refine sq fun _ k1 => rgn 0 ?_
 repeat refine ⟨sd, ?_⟩
 refine k1 (sq fun _ k2 => rg 0 ?_)
 refine evx hw8 ?_
 repeat refine ⟨sd, ?_⟩
 refine k2 (wps_ret ?_)
 refine retL [some 0, some 1, some 2, some 3, some 4] rfl ⟨trivial, trivial⟩ rfl rfl ?_
 exact mT

theorem wsync_ok (L S : PV) (last synced : Nat) (v g : Sec) (P : List Pend) (hv : SecOK v) : CallT Tryz.prog 42 [.p 0 0] (wlg L S last synced v g P)
  fun r σ => ∃ g' : Sec, g'.Perm v ∧ r = .tup [] ∧ σ = [.cells (logC L S last last), .cells (dskC 2 5 6), .map (v.map sent), .dead, .dead] ++ [.map (g'.map sent), .row 116 1 []] := by
 have hs := sync_ok v g P hv.1 fun p hp => by have := hv.2 p hp; omega
 unfold wlg logC
 simp only [dsk, dskC] at hs ⊢
 refine cof 14 [] Tryz.func42 Tryz.ntmps42 fun c hnt hc0 => ?_
 refine sq fun _ k1 => rgn 0 ?_
 repeat refine ⟨sd, ?_⟩
 refine callT_atNE [1, 2, 3, 4] [_, _, _, _] hs rfl rfl ⟨rfl, rfl, rfl, rfl, trivial⟩ mB mB (fun _ => rfl) (fun g' hg' => ?_)
 refine fxl ?_
 refine evl ?_
 repeat refine ⟨sd, ?_⟩
 refine k1 (rgn 0 ?_)
 repeat refine ⟨sd, ?_⟩
 refine retL [some 0, some 1, some 2, some 3, some 4, some 5, some 6] rfl trivial rfl rfl ?_
 refine ⟨g', hg', ?_⟩
 exact mU

/-! ### a segment given back -/
def free1 (k : Nat) (s : Sec × List Pend) : Sec × List Pend := match sget k s.1 with
 | none => s
 | some _ => (sdel k s.1, s.2 ++ [(k, none)])
def freeI (i : Nat) : Nat → Sec × List Pend → Sec × List Pend
 | 0, s => s
 | n + 1, s => free1 (802 + 16 * i + n) (freeI i n s)
theorem free1_len (k : Nat) (s : Sec × List Pend) : (free1 k s).2.length ≤ s.2.length + 1 := by
 unfold free1
 split <;> simp
theorem freeI_len (i : Nat) : ∀ (n : Nat) (s : Sec × List Pend), (freeI i n s).2.length ≤ s.2.length + n
 | 0, s => Nat.le_refl _
 | n + 1, s => by
  have h1 := free1_len (802 + 16 * i + n) (freeI i n s)
  have h2 := freeI_len i n s
  rw [freeI]; omega

theorem free_ok (L S : PV) (last synced : Nat) (v g : Sec) (P : List Pend) (i : Nat) (hi : i < 8) (hP : P.length ≤ 10000) : CallT Tryz.prog 76 [.p 0 0, .u (.i .i64 (i : Int))] (wlg L S last synced v g P)
  fun r σ => r = .tup [] ∧ σ = wlgN L S last synced (freeI i 16 (v, P)).1 g (freeI i 16 (v, P)).2 := by
 unfold wlg wlgN logC dskC
 refine cof 31 [] Tryz.func76 Tryz.ntmps76 fun c hnt hc0 => ?_
 refine sq fun _ k1 => rgn 0 ?_
 repeat refine ⟨sd, ?_⟩
 refine k1 (bk fun _ k2 => ?_)
 refine wps_loop (fun m e σ => ∃ n : Nat, m = 16 - n ∧ n ≤ 16 ∧ e = [(0, .p 0 0), (1, .u (.i .i64 (i : Int))), (8, .u (.i .i64 16)), (9, .u (.i .i64 (n : Int)))] ∧ σ = [.cells [.p 1 0, .u (.i .i64 802), .u (.i .i64 8), .u (.i .i64 16), .u L, .u S, .u (.i .u64 (last : Int)), .u (.i .u64 (synced : Int))], .cells [.u (.i .i64 1000), .u (.i .i64 1000), .h 2, .h 3, .h 5], .map ((freeI i n (v, P)).1.map sent), .map (g.map sent), .dead, .row 116 1 ((freeI i n (v, P)).2.map prow)])
  (e0 := [(0, .p 0 0), (1, .u (.i .i64 (i : Int))), (8, .u (.i .i64 16)), (9, .u (.i .i64 0))]) (σ0 := [.cells [.p 1 0, .u (.i .i64 802), .u (.i .i64 8), .u (.i .i64 16), .u L, .u S, .u (.i .u64 (last : Int)), .u (.i .u64 (synced : Int))], .cells [.u (.i .i64 1000), .u (.i .i64 1000), .h 2, .h 3, .h 5], .map (v.map sent), .map (g.map sent), .dead, .row 116 1 (P.map prow)])
  (entL2 hc0 [some 0, some 1, some 2, some 3, none, some 4] rfl rfl mB mB) ⟨0, rfl, by omega, rfl, rfl⟩ fun KL m e1 σ1 hI hKL => ?_
 obtain ⟨n, rfl, hn, rfl, rfl⟩ := hI
 refine sq fun _ k3 => rgn 0 ?_
 repeat refine ⟨sd, ?_⟩
 refine k3 (sq fun _ k4 => cd rfl (fun h1 => ?_) (fun h1 => ?_))
 ·have hlt : n < 16 := by simp at h1; omega
  have hw1 := wi1 n
  have hx1 : IntKind.i64.wrap ((i : Int) * 16) = ((16 * i : Nat) : Int) := by rw [wrap64 (by omega) (by omega)]; omega
  have hx2 : IntKind.i64.wrap (802 + ((16 * i : Nat) : Int)) = ((802 + 16 * i : Nat) : Int) := by rw [wrap64 (by omega) (by omega)]; omega
  have hx3 : IntKind.i64.wrap (((802 + 16 * i : Nat) : Int) + (n : Int)) = ((802 + 16 * i + n : Nat) : Int) := by rw [wrap64 (by omega) (by omega)]; omega
  have hfl := freeI_len i n (v, P)
  have hfs : freeI i (n + 1) (v, P) = free1 (802 + 16 * i + n) (freeI i n (v, P)) := rfl
  refine wps_skip (k4 (sq fun _ k5 => bk fun _ k6 => sq fun _ k7 => rgn 0 ?_))
  repeat refine ⟨sd, ?_⟩
  refine k7 ?_
  rcases hsg : sget (802 + 16 * i + n) (freeI i n (v, P)).1 with _ | b
  ·have hd := dfree_none (freeI i n (v, P)).1 g (freeI i n (v, P)).2 _ hsg
   simp only [dsk, dskC] at hd
   rw [free1, hsg] at hfs
   refine dr 0 [0, 1, 3, 7, 0, 16, 48, 112, 0, 0, 512, 1536, 3584, 7936, 16368, 0, 65520, 131071] mixed ?_
   refine evx3 hx1 hx2 hx3 ?_
   repeat refine ⟨sd, ?_⟩
   refine callE_at [1, 2, 3, 5] [_, _, _, _] hd rfl rfl ⟨rfl, rfl, rfl, rfl, trivial⟩ mB mB rfl mR mR ?_
   refine evx3 hx1 hx2 hx3 ?_
   repeat refine ⟨sd, ?_⟩
   refine k6 (k5 (rg 0 ?_))
   refine evx hw1 ?_
   repeat refine ⟨sd, ?_⟩
   exact hKL _ _ (16 - (n + 1)) _ [.cells [.p 1 0, .u (.i .i64 802), .u (.i .i64 8), .u (.i .i64 16), .u L, .u S, .u (.i .u64 (last : Int)), .u (.i .u64 (synced : Int))], .cells [.u (.i .i64 1000), .u (.i .i64 1000), .h 2, .h 3, .h 5], .map ((freeI i (n + 1) (v, P)).1.map sent), .map (g.map sent), .dead, .row 116 1 ((freeI i (n + 1) (v, P)).2.map prow)] (entL2 hc0 [some 0, some 1, some 2, some 3, none, some 5] rfl rfl mB (by rw [hfs]; simp only [go_sem, reduceIte, Nat.reduceEqDiff, Nat.reduceAdd, Nat.reduceLT])) ⟨n + 1, rfl, by omega, rfl, rfl⟩ (by omega)
  ·have hd := dfree_some (freeI i n (v, P)).1 g (freeI i n (v, P)).2 _ b hsg (by simp at hfl; omega)
   simp only [dsk, dskC, List.cons_append, List.nil_append] at hd
   rw [free1, hsg] at hfs
   refine dr 1 [0, 1, 3, 7, 0, 16, 48, 112, 0, 0, 512, 1536, 3584, 7936, 16368, 0, 65520, 131071] mixed ?_
   refine evx3 hx1 hx2 hx3 ?_
   repeat refine ⟨sd, ?_⟩
   refine callE_N [1, 2, 3, 5] [_, _, _, _] [6] hd rfl rfl ⟨rfl, rfl, rfl, rfl, rfl, trivial⟩ mB mB rfl mR mR ?_
   refine evx3 hx1 hx2 hx3 ?_
   repeat refine ⟨sd, ?_⟩
   refine k6 (k5 (rg 0 ?_))
   refine evx hw1 ?_
   repeat refine ⟨sd, ?_⟩
   exact hKL _ _ (16 - (n + 1)) _ [.cells [.p 1 0, .u (.i .i64 802), .u (.i .i64 8), .u (.i .i64 16), .u L, .u S, .u (.i .u64 (last : Int)), .u (.i .u64 (synced : Int))], .cells [.u (.i .i64 1000), .u (.i .i64 1000), .h 2, .h 3, .h 5], .map ((freeI i (n + 1) (v, P)).1.map sent), .map (g.map sent), .dead, .row 116 1 ((freeI i (n + 1) (v, P)).2.map prow)] (entL2 hc0 [some 0, some 1, some 2, some 3, none, some 6] rfl rfl mB (by rw [hfs]; simp only [go_sem, reduceIte, Nat.reduceEqDiff, Nat.reduceAdd, Nat.reduceLT])) ⟨n + 1, rfl, by omega, rfl, rfl⟩ (by omega)
 ·have hn16 : n = 16 := by simp at h1; omega
  subst hn16
  refine wps_exit ?_
  simp only [reduceIte, Nat.reduceEqDiff]
  refine k2 ?_
  refine retL [some 0, some 1, some 2, some 3, some 4, some 5] rfl trivial rfl rfl ?_
  exact mU

/-! ### a record more, in the current segment -/
def titleS : List UInt8 := [115, 101, 103, 109, 101, 110, 116]
theorem seg_last (l : List Seg) (s : Seg) : ((l ++ [s]).map segrow).getD l.length [] = [.i .i64 (s.1 : Int), .i .u64 (s.2.1 : Int), .i .u64 (s.2.2 : Int)] := by
 rw [List.map_append, List.getD_eq_getElem?_getD, List.getElem?_append_right (by simp)]
 simp [segrow]

theorem seg_set (l : List Seg) (s s' : Seg) : ((l ++ [s]).map segrow).set l.length (segrow s') = (l ++ [s']).map segrow := by
 rw [List.map_append, List.map_append, List.set_append_right _ _ (by simp)]
 simp

theorem appendA_ok (sg : List Seg) (s : Seg) (q1 q2 : Option Nat) (st body : List UInt8) (last synced M : Nat) (v g : Sec) (P : List Pend) (hsg : sg.length ≤ 100) (hs : s.1 < 8) (hc : s.2.2 ≤ 1000000) (hst : st ≠ []) (hlast : last ≤ 1000000) (hbd : body.length ≤ 8000)
  (hR : (recS (last + 1) titleS).length + (recS (last + 1) body).length ≤ 8192) (hfit : st.length + (recS (last + 1) body).length ≤ 8192) (hM : M = ((st ++ recS (last + 1) body).length + 511) / 512) (hv : LogSec v) (hP : P.length ≤ 10000) :
  CallT Tryz.prog 62 [.p 0 0, .u (.s body)] (wlg (.fz ((sg ++ [s]).map segrow) q1) (.fz (bs st) q2) last synced v g P)
  fun r σ => r = .tup [.u (.i .u64 ((last + 1 : Nat) : Int)), .u (.i .i64 0)] ∧ σ = wlgN (.fz ((sg ++ [(s.1, s.2.1, s.2.2 + 1)]).map segrow) none) (.fz (bs (st ++ recS (last + 1) body)) none) (last + 1) synced
   (applyW v (segW s.1 (st ++ recS (last + 1) body) (st.length / 512) (M - st.length / 512))) g (P ++ (segW s.1 (st ++ recS (last + 1) body) (st.length / 512) (M - st.length / 512)).map wrt) := by
 have hp1 := rput_ok (last + 1) body (by omega) (by omega)
 have hp2 := rput_ok (last + 1) titleS (by omega) (by decide)
 obtain ⟨R, hRe⟩ : ∃ R, recS (last + 1) body = R := ⟨_, rfl⟩
 obtain ⟨H, hHe⟩ : ∃ H, recS (last + 1) titleS = H := ⟨_, rfl⟩
 rw [hRe] at hp1 hR hfit hM ⊢
 rw [hHe] at hp2 hR
 have hw1 : IntKind.u64.wrap ((last : Int) + 1) = ((last + 1 : Nat) : Int) := by rw [wrapu64 (by omega) (by omega)]; omega
 have hroom := room_ok (.fz ((sg ++ [s]).map segrow) q1) (.fz (bs st) q2) last synced v g P
 have hcl := segclone_ok (sg ++ [s]) q1 (by simp; omega)
 have hbc := bclone_ok st q2 (by omega)
 have hstl : 0 < st.length := by
  cases st with
  | nil => exact absurd rfl hst
  | cons x l => simp
 have hput := put_ok (.fz ((sg ++ [s]).map segrow) q1) (.fz (bs st) q2) last synced v g P s.1 (st.length / 512) st.length M (st ++ R) none hs (by simp; omega) hM rfl (by rw [hM]; simp; omega) (by omega) hv hP
 have hsum : IntKind.i64.wrap ((H.length : Int) + (R.length : Int)) = ((H.length + R.length : Nat) : Int) := by rw [wrap64 (by omega) (by omega)]; omega
 have hsum2 : IntKind.i64.wrap ((st.length : Int) + (R.length : Int)) = ((st.length + R.length : Nat) : Int) := by rw [wrap64 (by omega) (by omega)]; omega
 have hst0 : ((st.length : Int) == 0) = false := by simp; omega
 have hl1 : IntKind.i64.wrap (((sg ++ [s]).length : Int) - 1) = (sg.length : Int) := by rw [List.length_append, List.length_singleton, wrap64 (by omega) (by omega)]; omega
 have hlast3 := seg_last sg s
 have hset := seg_set sg s (s.1, s.2.1, s.2.2 + 1)
 simp only [segrow] at hset
 have hw2 : IntKind.u64.wrap ((s.2.2 : Int) + 1) = ((s.2.2 + 1 : Nat) : Int) := by rw [wrapu64 (by omega) (by omega)]; omega
 simp only [titleS] at hp2
 unfold wlg wlgN logC dskC at *
 refine cof 160 [.tmp 4, .tmp 5] Tryz.func62 Tryz.ntmps62 fun c hnt hc0 => ?_
 refine sq fun _ k1 => rgn 0 ?_
 repeat refine ⟨sd, ?_⟩
 refine k1 (sq fun _ k2 => rg 0 ?_)
 refine evx hw1 ?_
 repeat refine ⟨sd, ?_⟩
 refine k2 (sq fun _ k3 => rgn 0 ?_)
 repeat refine ⟨sd, ?_⟩
 refine callT_new hp1 mB ?_
 refine rtl ?_
 refine evl ?_
 repeat refine ⟨sd, ?_⟩
 refine k3 (sq fun _ k4 => rgn 0 ?_)
 repeat refine ⟨sd, ?_⟩
 refine callT_new hp2 mB ?_
 refine rtl ?_
 refine evl ?_
 repeat refine ⟨sd, ?_⟩
 refine k4 (sq fun _ k5 => sq fun _ k6 => rg 0 ?_)
 refine evx hsum ?_
 repeat refine ⟨sd, ?_⟩
 refine callT_at [0, 1, 2, 3, 4] [_, _, _, _, _] hroom rfl rfl ⟨rfl, rfl, rfl, rfl, rfl, trivial⟩ mB mB rfl mR mR ?_
 refine evx hsum ?_
 repeat refine ⟨sd, ?_⟩
 refine k6 (cd rfl (fun h1 => ?_) (fun h1 => ?_))
 ·exact absurd h1 (by simp; omega)
 ·refine wps_skip (k5 (sq fun _ k7 => dr 0 [0, 1, 3, 7, 0, 16, 48, 112, 240, 0, 512, 1536, 3584, 15, 8703, 32767] mixed ?_))
  refine evl ?_
  repeat refine ⟨sd, ?_⟩
  refine k7 (sq fun _ k8 => sq fun _ k9 => rg 0 ?_)
  refine evx2 hst0 hsum2 ?_
  repeat refine ⟨sd, ?_⟩
  refine callT_at [0, 1, 2, 3, 4] [_, _, _, _, _] hroom rfl rfl ⟨rfl, rfl, rfl, rfl, rfl, trivial⟩ mB mB rfl mR mR ?_
  refine evx2 hst0 hsum2 ?_
  repeat refine ⟨sd, ?_⟩
  refine k9 (cd rfl (fun h2 => ?_) (fun h2 => ?_))
  ·exact absurd h2 (by simp; omega)
  ·refine rgn 0 ?_
   repeat refine ⟨sd, ?_⟩
   refine callT_new hcl mB ?_
   refine rtl ?_
   refine evl ?_
   repeat refine ⟨sd, ?_⟩
   refine k8 (sq fun _ k10 => rg 1 ?_)
   refine evx @bs_app ?_
   repeat refine ⟨sd, ?_⟩
   refine callT_new hbc mB ?_
   refine rtl ?_
   refine evx @bs_app ?_
   repeat refine ⟨sd, ?_⟩
   refine k10 (sq fun _ k11 => rg 0 ?_)
   refine evx hl1 ?_
   repeat refine ⟨sd, ?_⟩
   refine k11 (sq fun _ k12 => sq fun _ k13 => ?_)
   refine wps_ent (e' := [(0, .p 0 0), (6, .u (.i .u64 ((last + 1 : Nat) : Int))), (11, .u (.fz (bs (st ++ R)) none)), (12, .u (.i .i64 (st.length : Int))), (13, .h 7), (15, .rp 7 3 sg.length 0)]) (entF 8 rfl mB rfl) ?_
   refine rg 0 ?_
   refine evx hlast3 ?_
   repeat refine ⟨sd, ?_⟩
   refine callT_atN [0, 1, 2, 3, 4] [_, _, _, _, _] hput rfl rfl ⟨rfl, rfl, rfl, rfl, rfl, trivial⟩ mB mB rfl ?_
   refine fxl ?_
   refine evx hlast3 ?_
   repeat refine ⟨sd, ?_⟩
   refine k13 (sq fun _ k14 => rgn 0 ?_)
   repeat refine ⟨sd, ?_⟩
   refine k14 (cd rfl (fun h5 => ?_) (fun h5 => ?_))
   ·exact absurd h5 (by simp)
   ·refine wps_skip (k12 (sq fun _ k15 => rg 0 ?_))
    refine evx3 hlast3 hw2 hset ?_
    repeat refine ⟨sd, ?_⟩
    refine k15 (sq fun _ k16 => rgn 0 ?_)
    repeat refine ⟨sd, ?_⟩
    refine k16 (sq fun _ k17 => rgn 0 ?_)
    repeat refine ⟨sd, ?_⟩
    refine k17 ?_
    refine wps_ent (e' := [(4, .u (.i .u64 ((last + 1 : Nat) : Int))), (5, .u (.i .i64 0))]) (σ' := [.cells [.p 1 0, .u (.i .i64 802), .u (.i .i64 8), .u (.i .i64 16), .u (.fz ((sg ++ [(s.1, s.2.1, s.2.2 + 1)]).map segrow) none), .u (.fz (bs (st ++ R)) none), .u (.i .u64 ((last + 1 : Nat) : Int)), .u (.i .u64 (synced : Int))], .cells [.u (.i .i64 1000), .u (.i .i64 1000), .h 2, .h 3, .h 5], .map ((applyW v (segW s.1 (st ++ R) (st.length / 512) (M - st.length / 512))).map sent), .map (g.map sent), .dead, .row 116 1 ((P ++ (segW s.1 (st ++ R) (st.length / 512) (M - st.length / 512)).map wrt).map prow)])
     ((entF 7 rfl (e' := [(4, .u (.i .u64 ((last + 1 : Nat) : Int))), (5, .u (.i .i64 0))]) mB rfl).trans (entL2 hc0 [some 0, some 1, some 2, some 3, none, some 10] rfl rfl mB mB)) ?_
    refine wps_ret ?_
    refine retL [some 0, some 1, some 2, some 3, some 4, some 5] mA mO rfl rfl ?_
    exact mU

/-! ### a record more, in a new segment -/
theorem appendB_ok (sg : List Seg) (n : Nat) (q1 q2 : Option Nat) (st body : List UInt8) (last synced M : Nat) (v g : Sec) (P : List Pend) (hsg : sg.length ≤ 100) (hn : n < 8) (hu : ∀ j, j < n → usedB j sg = true) (hun : usedB n sg = false) (hlast : last ≤ 1000000) (hbd : body.length ≤ 8000) (hstl : st.length ≤ 8192)
  (hR : (recS (last + 1) titleS).length + (recS (last + 1) body).length ≤ 8192) (hfit : st = [] ∨ 8192 < st.length + (recS (last + 1) body).length) (hM : M = ((recS (last + 1) titleS ++ recS (last + 1) body).length + 511) / 512) (hv : LogSec v) (hP : P.length ≤ 10000) :
  CallT Tryz.prog 62 [.p 0 0, .u (.s body)] (wlg (.fz (sg.map segrow) q1) (.fz (bs st) q2) last synced v g P)
  fun r σ => r = .tup [.u (.i .u64 ((last + 1 : Nat) : Int)), .u (.i .i64 0)] ∧ σ = wlgN (.fz ((sg ++ [(n, last + 1, 1)]).map segrow) none) (.fz (bs (recS (last + 1) titleS ++ recS (last + 1) body)) none) (last + 1) synced
   (applyW v (segW n (recS (last + 1) titleS ++ recS (last + 1) body) 0 M)) g (P ++ (segW n (recS (last + 1) titleS ++ recS (last + 1) body) 0 M).map wrt) := by
 have hp1 := rput_ok (last + 1) body (by omega) (by omega)
 have hp2 := rput_ok (last + 1) titleS (by omega) (by decide)
 obtain ⟨R, hRe⟩ : ∃ R, recS (last + 1) body = R := ⟨_, rfl⟩
 obtain ⟨H, hHe⟩ : ∃ H, recS (last + 1) titleS = H := ⟨_, rfl⟩
 rw [hRe] at hp1 hR hfit hM ⊢
 rw [hHe] at hp2 hR hM ⊢
 have hw1 : IntKind.u64.wrap ((last : Int) + 1) = ((last + 1 : Nat) : Int) := by rw [wrapu64 (by omega) (by omega)]; omega
 have hroom := room_ok (.fz (sg.map segrow) q1) (.fz (bs st) q2) last synced v g P
 have hcl := segclone_ok sg q1 (by omega)
 have hbc := bclone_ok H none (by omega)
 have hput := put_ok (.fz (sg.map segrow) q1) (.fz (bs st) q2) last synced v g P n 0 0 M (H ++ R) none hn (by simp; omega) hM rfl (by omega) (by omega) hv hP
 have hused := fun j => used_ok sg q1 (.fz (bs st) q2) last synced v g P j (by omega)
 rw [Nat.sub_zero] at hput
 have hsum : IntKind.i64.wrap ((H.length : Int) + (R.length : Int)) = ((H.length + R.length : Nat) : Int) := by rw [wrap64 (by omega) (by omega)]; omega
 have hsum2 : IntKind.i64.wrap ((st.length : Int) + (R.length : Int)) = ((st.length + R.length : Nat) : Int) := by rw [wrap64 (by omega) (by omega)]; omega
 have hl1 : IntKind.i64.wrap (((sg ++ [(n, last + 1, 0)]).length : Int) - 1) = (sg.length : Int) := by rw [List.length_append, List.length_singleton, wrap64 (by omega) (by omega)]; omega
 have hlast3 := seg_last sg (n, last + 1, 0)
 have hset := seg_set sg (n, last + 1, 0) (n, last + 1, 1)
 have hs1 := segrow_ok1 sg
 have hs2 := segrow_ok2 sg
 have hbuild : sg.map segrow ++ [[.i .i64 (n : Int), .i .u64 ((last + 1 : Nat) : Int), .i .u64 0]] = (sg ++ [(n, last + 1, 0)]).map segrow := by simp [segrow]
 simp only [segrow, nl1] at hset
 have hw01 : IntKind.u64.wrap 1 = ((1 : Nat) : Int) := by decide
 simp only [titleS] at hp2
 unfold wlg wlgN logC dskC at *
 refine cof 160 [.tmp 4, .tmp 5] Tryz.func62 Tryz.ntmps62 fun c hnt hc0 => ?_
 refine sq fun _ k1 => rgn 0 ?_
 repeat refine ⟨sd, ?_⟩
 refine k1 (sq fun _ k2 => rg 0 ?_)
 refine evx hw1 ?_
 repeat refine ⟨sd, ?_⟩
 refine k2 (sq fun _ k3 => rgn 0 ?_)
 repeat refine ⟨sd, ?_⟩
 refine callT_new hp1 mB ?_
 refine rtl ?_
 refine evl ?_
 repeat refine ⟨sd, ?_⟩
 refine k3 (sq fun _ k4 => rgn 0 ?_)
 repeat refine ⟨sd, ?_⟩
 refine callT_new hp2 mB ?_
 refine rtl ?_
 refine evl ?_
 repeat refine ⟨sd, ?_⟩
 refine k4 (sq fun _ k5 => sq fun _ k6 => rg 0 ?_)
 refine evx hsum ?_
 repeat refine ⟨sd, ?_⟩
 refine callT_at [0, 1, 2, 3, 4] [_, _, _, _, _] hroom rfl rfl ⟨rfl, rfl, rfl, rfl, rfl, trivial⟩ mB mB rfl mR mR ?_
 refine evx hsum ?_
 repeat refine ⟨sd, ?_⟩
 refine k6 (cd rfl (fun h1 => ?_) (fun h1 => ?_))
 ·exact absurd h1 (by simp; omega)
 ·refine wps_skip (k5 (sq fun _ k7 => dr 0 [0, 1, 3, 7, 0, 16, 48, 112, 240, 0, 512, 1536, 3584, 15, 8703, 32767] mixed ?_))
  refine evl ?_
  repeat refine ⟨sd, ?_⟩
  refine k7 (sq fun _ k8 => sq fun _ k9 => ?_)
  rcases Nat.eq_zero_or_pos st.length with he | he
  ·have hst0 : ((st.length : Int) == 0) = true := by rw [he]; rfl
   refine rg 0 ?_
   refine evx2 hst0 hsum2 ?_
   repeat refine ⟨sd, ?_⟩
   skip
   repeat refine ⟨sd, ?_⟩
   refine k9 (cd rfl (fun h2 => ?_) (fun h2 => ?_))
   ·refine sq fun _ k10 => rgn 0 ?_
    repeat refine ⟨sd, ?_⟩
    refine k10 (sq fun _ k11 => bk fun _ k12 => ?_)
    refine wps_loop (fun m e σ => ∃ j : Nat, m = n - j ∧ j ≤ n ∧ e = [(0, .p 0 0), (6, .u (.i .u64 ((last + 1 : Nat) : Int))), (7, .h 5), (9, .h 6), (13, .u (.fz (sg.map segrow) q1)), (14, .u (.i .i64 (j : Int)))] ∧ σ = [.cells [.p 1 0, .u (.i .i64 802), .u (.i .i64 8), .u (.i .i64 16), .u (.fz (sg.map segrow) q1), .u (.fz (bs st) q2), .u (.i .u64 (last : Int)), .u (.i .u64 (synced : Int))], .cells [.u (.i .i64 1000), .u (.i .i64 1000), .h 2, .h 3, .h 4], .map (v.map sent), .map (g.map sent), .row 116 1 (P.map prow), .row 5 1 (bs R), .row 5 1 (bs H)])
     (e0 := [(0, .p 0 0), (6, .u (.i .u64 ((last + 1 : Nat) : Int))), (7, .h 5), (9, .h 6), (13, .u (.fz (sg.map segrow) q1)), (14, .u (.i .i64 0))]) (σ0 := [.cells [.p 1 0, .u (.i .i64 802), .u (.i .i64 8), .u (.i .i64 16), .u (.fz (sg.map segrow) q1), .u (.fz (bs st) q2), .u (.i .u64 (last : Int)), .u (.i .u64 (synced : Int))], .cells [.u (.i .i64 1000), .u (.i .i64 1000), .h 2, .h 3, .h 4], .map (v.map sent), .map (g.map sent), .row 116 1 (P.map prow), .row 5 1 (bs R), .row 5 1 (bs H)]) (entL hc0 [some 0, some 1, some 2, some 3, some 4, some 5, some 6] rfl rfl mB mB) ⟨0, rfl, by omega, rfl, rfl⟩ fun KL m e1 σ1 hI hKL => ?_
    obtain ⟨j, rfl, hj, rfl, rfl⟩ := hI
    have hj8 : ((j : Int) < 8) = True := by simp; omega
    have hjw := wi1 j
    refine sq fun _ k13 => sq fun _ k14 => rg 0 ?_
    refine evx hj8 ?_
    repeat refine ⟨sd, ?_⟩
    refine callT_at [0, 1, 2, 3, 4] [_, _, _, _, _] (hused j) rfl rfl ⟨rfl, rfl, rfl, rfl, rfl, trivial⟩ mB mB rfl mR mR ?_
    refine evx hj8 ?_
    repeat refine ⟨sd, ?_⟩
    refine k14 (cd rfl (fun h3 => ?_) (fun h3 => ?_))
    ·have hjn : j < n := by
      rcases Nat.lt_or_ge j n with h | h
      ·exact h
      ·have : j = n := by omega
       subst this; rw [hun] at h3; simp at h3
     refine wps_skip (k13 (bk fun _ k15 => rg 0 ?_))
     refine evx hjw ?_
     repeat refine ⟨sd, ?_⟩
     refine k15 ?_
     exact hKL _ _ (n - (j + 1)) _ _ (entL hc0 [some 0, some 1, some 2, some 3, some 4, some 5, some 6] rfl rfl mB mB) ⟨j + 1, rfl, by omega, rfl, rfl⟩ (by omega)
    ·have hjn : j = n := by
      rcases Nat.lt_or_ge j n with h | h
      ·rw [hu j h] at h3; simp at h3
      ·omega
     subst hjn
     refine wps_exit ?_
     simp only [reduceIte, Nat.reduceEqDiff]
     refine k12 (k11 (sq fun _ k16 => sq fun _ k17 => rgn 0 ?_))
     repeat refine ⟨sd, ?_⟩
     refine k17 (cd rfl (fun h4 => ?_) (fun h4 => ?_))
     ·exact absurd h4 (by simp; omega)
     ·refine wps_skip (k16 (sq fun _ k18 => rgn 0 ?_))
      repeat refine ⟨sd, ?_⟩
      refine k18 (rg 1 ?_)
      refine evx hbuild ?_
      repeat refine ⟨sd, ?_⟩
      refine callT_new hcl mB ?_
      refine rtl ?_
      refine evx hbuild ?_
      repeat refine ⟨sd, ?_⟩
      refine k8 (sq fun _ k19 => rg 1 ?_)
      refine evx @bs_app ?_
      repeat refine ⟨sd, ?_⟩
      refine callT_frz 6 rfl ?_
      simp only [go_sem, reduceIte, Nat.reduceEqDiff]
      refine callT_new hbc mB ?_
      refine rtl ?_
      refine evx @bs_app ?_
      repeat refine ⟨sd, ?_⟩
      refine k19 (sq fun _ k20 => rg 0 ?_)
      refine evx hl1 ?_
      repeat refine ⟨sd, ?_⟩
      refine k20 (sq fun _ k21 => sq fun _ k22 => ?_)
      refine wps_ent (e' := [(0, .p 0 0), (6, .u (.i .u64 ((last + 1 : Nat) : Int))), (11, .u (.fz (bs (H ++ R)) none)), (12, .u (.i .i64 0)), (13, .h 7), (15, .rp 7 3 sg.length 0)]) (entF 9 rfl mB rfl) ?_
      refine rg 0 ?_
      refine evx hlast3 ?_
      repeat refine ⟨sd, ?_⟩
      refine callT_atN [0, 1, 2, 3, 4] [_, _, _, _, _] hput rfl rfl ⟨rfl, rfl, rfl, rfl, rfl, trivial⟩ mB mB rfl ?_
      refine fxl ?_
      refine evx hlast3 ?_
      repeat refine ⟨sd, ?_⟩
      refine k22 (sq fun _ k23 => rgn 0 ?_)
      repeat refine ⟨sd, ?_⟩
      refine k23 (cd rfl (fun h5 => ?_) (fun h5 => ?_))
      ·exact absurd h5 (by simp)
      ·refine wps_skip (k21 (sq fun _ k24 => rg 0 ?_))
       refine evx3 hlast3 hset hw01 ?_
       repeat refine ⟨sd, ?_⟩
       refine k24 (sq fun _ k25 => rgn 0 ?_)
       repeat refine ⟨sd, ?_⟩
       refine k25 (sq fun _ k26 => rgn 0 ?_)
       repeat refine ⟨sd, ?_⟩
       refine k26 ?_
       refine wps_ent (e' := [(4, .u (.i .u64 ((last + 1 : Nat) : Int))), (5, .u (.i .i64 0))]) (σ' := [.cells [.p 1 0, .u (.i .i64 802), .u (.i .i64 8), .u (.i .i64 16), .u (.fz ((sg ++ [(j, last + 1, 1)]).map segrow) none), .u (.fz (bs (H ++ R)) none), .u (.i .u64 ((last + 1 : Nat) : Int)), .u (.i .u64 (synced : Int))], .cells [.u (.i .i64 1000), .u (.i .i64 1000), .h 2, .h 3, .h 5], .map ((applyW v (segW j (H ++ R) 0 M)).map sent), .map (g.map sent), .dead, .row 116 1 ((P ++ (segW j (H ++ R) 0 M).map wrt).map prow)])
        ((entF 7 rfl (e' := [(4, .u (.i .u64 ((last + 1 : Nat) : Int))), (5, .u (.i .i64 0))]) mB rfl).trans (entL2 hc0 [some 0, some 1, some 2, some 3, none, some 11] rfl rfl mB mB)) ?_
       refine wps_ret ?_
       refine retL [some 0, some 1, some 2, some 3, some 4, some 5] mA mO rfl rfl ?_
       exact mU
   ·exact absurd h2 (by simp)
  ·have hst0 : ((st.length : Int) == 0) = false := beq_eq_false_iff_ne.2 (by omega)
   refine rg 0 ?_
   refine evx2 hst0 hsum2 ?_
   repeat refine ⟨sd, ?_⟩
   refine callT_at [0, 1, 2, 3, 4] [_, _, _, _, _] hroom rfl rfl ⟨rfl, rfl, rfl, rfl, rfl, trivial⟩ mB mB rfl mR mR ?_
   refine evx2 hst0 hsum2 ?_
   repeat refine ⟨sd, ?_⟩
   refine k9 (cd rfl (fun h2 => ?_) (fun h2 => ?_))
   ·refine sq fun _ k27 => rgn 0 ?_
    repeat refine ⟨sd, ?_⟩
    refine k27 (sq fun _ k28 => bk fun _ k29 => ?_)
    refine wps_loop (fun m e σ => ∃ j : Nat, m = n - j ∧ j ≤ n ∧ e = [(0, .p 0 0), (6, .u (.i .u64 ((last + 1 : Nat) : Int))), (7, .h 5), (9, .h 6), (13, .u (.fz (sg.map segrow) q1)), (14, .u (.i .i64 (j : Int)))] ∧ σ = [.cells [.p 1 0, .u (.i .i64 802), .u (.i .i64 8), .u (.i .i64 16), .u (.fz (sg.map segrow) q1), .u (.fz (bs st) q2), .u (.i .u64 (last : Int)), .u (.i .u64 (synced : Int))], .cells [.u (.i .i64 1000), .u (.i .i64 1000), .h 2, .h 3, .h 4], .map (v.map sent), .map (g.map sent), .row 116 1 (P.map prow), .row 5 1 (bs R), .row 5 1 (bs H)])
     (e0 := [(0, .p 0 0), (6, .u (.i .u64 ((last + 1 : Nat) : Int))), (7, .h 5), (9, .h 6), (13, .u (.fz (sg.map segrow) q1)), (14, .u (.i .i64 0))]) (σ0 := [.cells [.p 1 0, .u (.i .i64 802), .u (.i .i64 8), .u (.i .i64 16), .u (.fz (sg.map segrow) q1), .u (.fz (bs st) q2), .u (.i .u64 (last : Int)), .u (.i .u64 (synced : Int))], .cells [.u (.i .i64 1000), .u (.i .i64 1000), .h 2, .h 3, .h 4], .map (v.map sent), .map (g.map sent), .row 116 1 (P.map prow), .row 5 1 (bs R), .row 5 1 (bs H)]) (entL hc0 [some 0, some 1, some 2, some 3, some 4, some 5, some 6] rfl rfl mB mB) ⟨0, rfl, by omega, rfl, rfl⟩ fun KL m e1 σ1 hI hKL => ?_
    obtain ⟨j, rfl, hj, rfl, rfl⟩ := hI
    have hj8 : ((j : Int) < 8) = True := by simp; omega
    have hjw := wi1 j
    refine sq fun _ k30 => sq fun _ k31 => rg 0 ?_
    refine evx hj8 ?_
    repeat refine ⟨sd, ?_⟩
    refine callT_at [0, 1, 2, 3, 4] [_, _, _, _, _] (hused j) rfl rfl ⟨rfl, rfl, rfl, rfl, rfl, trivial⟩ mB mB rfl mR mR ?_
    refine evx hj8 ?_
    repeat refine ⟨sd, ?_⟩
    refine k31 (cd rfl (fun h3 => ?_) (fun h3 => ?_))
    ·have hjn : j < n := by
      rcases Nat.lt_or_ge j n with h | h
      ·exact h
      ·have : j = n := by omega
       subst this; rw [hun] at h3; simp at h3
     refine wps_skip (k30 (bk fun _ k32 => rg 0 ?_))
     refine evx hjw ?_
     repeat refine ⟨sd, ?_⟩
     refine k32 ?_
     exact hKL _ _ (n - (j + 1)) _ _ (entL hc0 [some 0, some 1, some 2, some 3, some 4, some 5, some 6] rfl rfl mB mB) ⟨j + 1, rfl, by omega, rfl, rfl⟩ (by omega)
    ·have hjn : j = n := by
      rcases Nat.lt_or_ge j n with h | h
      ·rw [hu j h] at h3; simp at h3
      ·omega
     subst hjn
     refine wps_exit ?_
     simp only [reduceIte, Nat.reduceEqDiff]
     refine k29 (k28 (sq fun _ k33 => sq fun _ k34 => rgn 0 ?_))
     repeat refine ⟨sd, ?_⟩
     refine k34 (cd rfl (fun h4 => ?_) (fun h4 => ?_))
     ·exact absurd h4 (by simp; omega)
     ·refine wps_skip (k33 (sq fun _ k35 => rgn 0 ?_))
      repeat refine ⟨sd, ?_⟩
      refine k35 (rg 1 ?_)
      refine evx hbuild ?_
      repeat refine ⟨sd, ?_⟩
      refine callT_new hcl mB ?_
      refine rtl ?_
      refine evx hbuild ?_
      repeat refine ⟨sd, ?_⟩
      refine k8 (sq fun _ k36 => rg 1 ?_)
      refine evx @bs_app ?_
      repeat refine ⟨sd, ?_⟩
      refine callT_frz 6 rfl ?_
      simp only [go_sem, reduceIte, Nat.reduceEqDiff]
      refine callT_new hbc mB ?_
      refine rtl ?_
      refine evx @bs_app ?_
      repeat refine ⟨sd, ?_⟩
      refine k36 (sq fun _ k37 => rg 0 ?_)
      refine evx hl1 ?_
      repeat refine ⟨sd, ?_⟩
      refine k37 (sq fun _ k38 => sq fun _ k39 => ?_)
      refine wps_ent (e' := [(0, .p 0 0), (6, .u (.i .u64 ((last + 1 : Nat) : Int))), (11, .u (.fz (bs (H ++ R)) none)), (12, .u (.i .i64 0)), (13, .h 7), (15, .rp 7 3 sg.length 0)]) (entF 9 rfl mB rfl) ?_
      refine rg 0 ?_
      refine evx hlast3 ?_
      repeat refine ⟨sd, ?_⟩
      refine callT_atN [0, 1, 2, 3, 4] [_, _, _, _, _] hput rfl rfl ⟨rfl, rfl, rfl, rfl, rfl, trivial⟩ mB mB rfl ?_
      refine fxl ?_
      refine evx hlast3 ?_
      repeat refine ⟨sd, ?_⟩
      refine k39 (sq fun _ k40 => rgn 0 ?_)
      repeat refine ⟨sd, ?_⟩
      refine k40 (cd rfl (fun h5 => ?_) (fun h5 => ?_))
      ·exact absurd h5 (by simp)
      ·refine wps_skip (k38 (sq fun _ k41 => rg 0 ?_))
       refine evx3 hlast3 hset hw01 ?_
       repeat refine ⟨sd, ?_⟩
       refine k41 (sq fun _ k42 => rgn 0 ?_)
       repeat refine ⟨sd, ?_⟩
       refine k42 (sq fun _ k43 => rgn 0 ?_)
       repeat refine ⟨sd, ?_⟩
       refine k43 ?_
       refine wps_ent (e' := [(4, .u (.i .u64 ((last + 1 : Nat) : Int))), (5, .u (.i .i64 0))]) (σ' := [.cells [.p 1 0, .u (.i .i64 802), .u (.i .i64 8), .u (.i .i64 16), .u (.fz ((sg ++ [(j, last + 1, 1)]).map segrow) none), .u (.fz (bs (H ++ R)) none), .u (.i .u64 ((last + 1 : Nat) : Int)), .u (.i .u64 (synced : Int))], .cells [.u (.i .i64 1000), .u (.i .i64 1000), .h 2, .h 3, .h 5], .map ((applyW v (segW j (H ++ R) 0 M)).map sent), .map (g.map sent), .dead, .row 116 1 ((P ++ (segW j (H ++ R) 0 M).map wrt).map prow)])
        ((entF 7 rfl (e' := [(4, .u (.i .u64 ((last + 1 : Nat) : Int))), (5, .u (.i .i64 0))]) mB rfl).trans (entL2 hc0 [some 0, some 1, some 2, some 3, none, some 11] rfl rfl mB mB)) ?_
       refine wps_ret ?_
       refine retL [some 0, some 1, some 2, some 3, some 4, some 5] mA mO rfl rfl ?_
       exact mU
   ·exact absurd h2 (by
     rcases hfit with h | h
     ·subst h; simp at he
     ·simp; omega)
end Go.Proofs.YtefipnajpabfgaaGreatDoor
