/- Part 8 of the proof: what functions of the program do, and plain facts on what they compute. -/
import Derived.Test.YtefipnajpabfgaaGreatDoorP7
set_option linter.all false
set_option maxRecDepth 40000
set_option maxHeartbeats 16000000
set_option linter.unusedSimpArgs false
set_option linter.unusedVariables false
namespace Go.Proofs.YtefipnajpabfgaaGreatDoor
open Go.Nm

/-! ### where a key is -/
def lob (key : List UInt8) (l : List Cel) : Nat := (l.takeWhile fun c => Op.bytesLess c.1 key).length
def keyAt (key : List UInt8) (l : List Cel) : Bool := match l[lob key l]? with
 | some c => c.1 == key
 | none => false
theorem lob_le (key : List UInt8) (l : List Cel) : lob key l ≤ l.length := (List.takeWhile_sublist _).length_le
theorem Sorted.tail {a : Cel} {l : List Cel} (h : Sorted (a :: l)) : Sorted l := by
 cases l with
 | nil => trivial
 | cons b r => exact h.2
theorem Sorted.head : ∀ {l : List Cel} {a : Cel}, Sorted (a :: l) → ∀ c ∈ l, Op.bytesLess a.1 c.1 = true
 | b :: r, a, h, c, hm => by
  rcases List.mem_cons.1 hm with rfl | hm
  ·exact h.1
  ·exact blt_trans h.1 (Sorted.head h.2 c hm)
theorem Sorted.of_head : ∀ {l : List Cel} {a : Cel}, (∀ c ∈ l, Op.bytesLess a.1 c.1 = true) → Sorted l → Sorted (a :: l)
 | [], _, _, _ => trivial
 | b :: r, a, h, hs => ⟨h b (by simp), hs⟩
theorem lob_lt {key : List UInt8} : ∀ {l : List Cel} {j : Nat}, j < lob key l → Op.bytesLess (l.getD j ([], [])).1 key = true
 | [], j, h => by simp [lob] at h
 | a :: l, j, h => by
  unfold lob at h
  rw [List.takeWhile_cons] at h
  split at h
  ·rename_i ha
   cases j with
   | zero => simpa using ha
   | succ j =>
    have := lob_lt (key := key) (l := l) (j := j) (by unfold lob; simpa using h)
    simpa using this
  ·simp at h
theorem lob_ge {key : List UInt8} : ∀ {l : List Cel} {j : Nat}, Sorted l → lob key l ≤ j → j < l.length → Op.bytesLess (l.getD j ([], [])).1 key = false
 | [], j, _, _, h => by simp at h
 | a :: l, j, hs, h, hj => by
  unfold lob at h
  rw [List.takeWhile_cons] at h
  split at h
  ·rename_i ha
   cases j with
   | zero => simp at h
   | succ j =>
    have := lob_ge (key := key) (l := l) (j := j) hs.tail (by unfold lob; simpa using h) (by simpa using hj)
    simpa using this
  ·rename_i ha
   cases j with
   | zero => simpa using ha
   | succ j =>
    have hm : (l.getD j ([], [])) ∈ l := getD_mem (by simpa using hj)
    have h1 := hs.head _ hm
    rw [List.getD_cons_succ]
    cases hb : Op.bytesLess (l.getD j ([], [])).1 key with
    | false => rfl
    | true => rw [blt_trans h1 hb] at ha; exact absurd rfl ha

theorem find1_ok (p : Pg) (q : Option Nat) (key : List UInt8) (i : Nat) (hi : i < p.cells.length) : CallT Tryz.prog 127 [.u (.i .i64 (i : Int)), .p 0 0, .p 1 0] [.cells [.u (.b p.leaf), .u (.i .i64 (p.next : Int)), .u (.fz (p.cells.map crow) q)], .cells [.u (.s key)]]
  fun r σ => r = .u (.b (!Op.bytesLess (p.cells.getD i ([], [])).1 key)) ∧ σ = [.cells [.u (.b p.leaf), .u (.i .i64 (p.next : Int)), .u (.fz (p.cells.map crow) q)], .cells [.u (.s key)]] := by
 have hel := crow_at hi
 refine cof 13 [.tmp 4] Tryz.func127 Tryz.ntmps127 fun c hnt hc0 => ?_
 refine sq fun _ k1 => rgn 0 ?_
 repeat refine ⟨sd, ?_⟩
 refine k1 (sq fun _ k2 => dr 0 [0, 1, 0, 7, 15, 31, 0, 127, 255] mixed ?_)
 refine evx hel ?_
 repeat refine ⟨sd, ?_⟩
 refine k2 (wps_ret ?_)
 refine retL [some 0, some 1] rfl ⟨trivial, trivial⟩ rfl rfl ?_
 exact mT

theorem search_ok (p : Pg) (q : Option Nat) (key : List UInt8) (hs : Sorted p.cells) (hl : p.cells.length ≤ 1000000) : CallT Tryz.prog 126 [.u (.i .i64 (p.cells.length : Int)), .fn 127 [.p 0 0, .p 1 0]] [.cells [.u (.b p.leaf), .u (.i .i64 (p.next : Int)), .u (.fz (p.cells.map crow) q)], .cells [.u (.s key)]]
  fun r σ => r = .u (.i .i64 (lob key p.cells : Int)) ∧ σ = [.cells [.u (.b p.leaf), .u (.i .i64 (p.next : Int)), .u (.fz (p.cells.map crow) q)], .cells [.u (.s key)]] := by
 have hle := lob_le key p.cells
 have hf := find1_ok p q key
 refine cof 26 [.tmp 4] Tryz.func126 Tryz.ntmps126 fun c hnt hc0 => ?_
 refine sq fun _ k1 => rgn 0 ?_
 repeat refine ⟨sd, ?_⟩
 refine k1 (sq fun _ k2 => rgn 0 ?_)
 repeat refine ⟨sd, ?_⟩
 refine k2 (sq fun _ k3 => bk fun _ k4 => ?_)
 refine wps_loop (fun k e σ => ∃ lo hi : Nat, k = hi - lo ∧ lo ≤ lob key p.cells ∧ lob key p.cells ≤ hi ∧ hi ≤ p.cells.length ∧ e = [(1, .fn 127 [.p 0 0, .p 1 0]), (5, .u (.i .i64 (lo : Int))), (6, .u (.i .i64 (hi : Int)))] ∧ σ = [.cells [.u (.b p.leaf), .u (.i .i64 (p.next : Int)), .u (.fz (p.cells.map crow) q)], .cells [.u (.s key)]])
  (e0 := [(1, .fn 127 [.p 0 0, .p 1 0]), (5, .u (.i .i64 0)), (6, .u (.i .i64 (p.cells.length : Int)))]) (σ0 := [.cells [.u (.b p.leaf), .u (.i .i64 (p.next : Int)), .u (.fz (p.cells.map crow) q)], .cells [.u (.s key)]]) (entL hc0 [some 0, some 1] rfl rfl mB mB) ⟨0, p.cells.length, rfl, Nat.zero_le _, hle, Nat.le_refl _, rfl, rfl⟩ fun KL k e1 σ1 hI hKL => ?_
 obtain ⟨lo, hi, rfl, hlo, hhi, hhl, rfl, rfl⟩ := hI
 refine sq fun _ k5 => sq fun _ k6 => rgn 0 ?_
 repeat refine ⟨sd, ?_⟩
 refine k6 (cd rfl (fun h1 => ?_) (fun h1 => ?_))
 ·have hlt : lo < hi := by simp at h1; omega
  obtain ⟨mid, hmid⟩ : ∃ mid, (lo + hi) / 2 = mid := ⟨_, rfl⟩
  have hw1 : IntKind.i64.wrap ((lo : Int) + (hi : Int)) = ((lo + hi : Nat) : Int) := by rw [wrap64 (by omega) (by omega)]; omega
  have hw2 := wrapu_nat (n := lo + hi) (by omega)
  have hw3 : ((lo + hi : Nat) : Int).fdiv (2 ^ min 1 64) = (mid : Int) := by
   rw [show (min 1 64 : Nat) = 1 from rfl, shrN, hmid]
  have hw4 : IntKind.i64.wrap (mid : Int) = (mid : Int) := wrap64 (by omega) (by omega)
  have hw5 := wi1 mid
  have hm := hf mid (by omega)
  obtain ⟨B, hB⟩ : ∃ B, Op.bytesLess (p.cells.getD mid ([], [])).1 key = B := ⟨_, rfl⟩
  rw [hB] at hm
  refine wps_skip (k5 (bk fun _ k7 => sq fun _ k8 => rg 0 ?_))
  refine evx4 hw1 hw2 hw3 hw4 ?_
  repeat refine ⟨sd, ?_⟩
  refine k8 (sq fun _ k9 => rgn 0 ?_)
  repeat refine ⟨sd, ?_⟩
  refine callT_at [0, 1] [_, _] hm rfl rfl ⟨rfl, rfl, trivial⟩ mB mB rfl mR mR ?_
  refine evl ?_
  repeat refine ⟨sd, ?_⟩
  refine k9 (cd rfl (fun h2 => ?_) (fun h2 => ?_))
  ·have hBt : B = true := by simpa using h2
   subst hBt
   have hml : mid < lob key p.cells := by
    rcases Nat.lt_or_ge mid (lob key p.cells) with h | h
    ·exact h
    ·rw [lob_ge hs h (by omega)] at hB; exact absurd hB (by simp)
   refine rg 0 ?_
   refine evx hw5 ?_
   repeat refine ⟨sd, ?_⟩
   refine k7 ?_
   exact hKL _ _ (hi - (mid + 1)) _ _ (entL hc0 [some 0, some 1] rfl rfl mB mB) ⟨mid + 1, hi, rfl, by omega, by omega, by omega, rfl, rfl⟩ (by omega)
  ·have hBf : B = false := by simpa using h2
   subst hBf
   have hml : lob key p.cells ≤ mid := by
    rcases Nat.lt_or_ge mid (lob key p.cells) with h | h
    ·rw [lob_lt h] at hB; exact absurd hB (by simp)
    ·exact h
   refine rgn 0 ?_
   repeat refine ⟨sd, ?_⟩
   refine k7 ?_
   exact hKL _ _ (mid - lo) _ _ (entL hc0 [some 0, some 1] rfl rfl mB mB) ⟨lo, mid, rfl, by omega, by omega, by omega, rfl, rfl⟩ (by omega)
 ·have hlh : lo = lob key p.cells := by simp at h1; omega
  subst hlh
  refine wps_exit ?_
  simp only [reduceIte, Nat.reduceEqDiff]
  refine k4 (k3 (sq fun _ k10 => rgn 0 ?_))
  repeat refine ⟨sd, ?_⟩
  refine k10 (wps_ret ?_)
  refine retL [some 0, some 1] rfl ⟨trivial, trivial⟩ rfl rfl ?_
  exact mT

theorem find_ok (p : Pg) (q : Option Nat) (key : List UInt8) (hs : Sorted p.cells) (hl : p.cells.length ≤ 1000000) : CallT Tryz.prog 89 [pgA p q, .u (.s key)] []
  fun r σ => r = .tup [.u (.i .i64 (lob key p.cells : Int)), .u (.b (keyAt key p.cells))] ∧ σ = [] := by
 have hle := lob_le key p.cells
 have hse := search_ok p q key hs hl
 obtain ⟨leaf, next, l⟩ := p
 simp only at *
 unfold pgA
 simp only
 obtain ⟨K, hK⟩ : ∃ K, lob key l = K := ⟨_, rfl⟩
 rw [hK] at hse hle ⊢
 have hka : keyAt key l = match l[K]? with | some c => c.1 == key | none => false := by rw [keyAt, hK]
 refine cof 28 [.tmp 4, .tmp 5] Tryz.func89 Tryz.ntmps89 fun c hnt hc0 => ?_
 refine sq fun _ k1 => rgn 2 ?_
 repeat refine ⟨sd, ?_⟩
 refine k1 (sq fun _ k2 => rgn 0 ?_)
 repeat refine ⟨sd, ?_⟩
 refine callT_at [0, 1] [_, _] hse rfl rfl ⟨rfl, rfl, trivial⟩ mB mB rfl mR mR ?_
 refine evl ?_
 repeat refine ⟨sd, ?_⟩
 refine k2 (sq fun _ k3 => ?_)
 rcases Nat.lt_or_ge K l.length with hlt | hge
 ·have hel := crow_at hlt
  rw [List.getElem?_eq_getElem hlt] at hka
  have hgd : l.getD K ([], []) = l[K] := by rw [List.getD_eq_getElem?_getD, List.getElem?_eq_getElem hlt]; rfl
  rw [hgd] at hel
  have hd : decide ((K : Int) < (l.length : Int)) = true := decide_eq_true (by omega)
  refine dr 0 [0, 0, 0, 4, 12, 30, 62, 126, 254, 126, 1022, 2046, 4094, 126, 16382, 32766, 127, 131071] mixed ?_
  refine evx2 hel hd ?_
  repeat refine ⟨sd, ?_⟩
  refine k3 (wps_ret ?_)
  refine retL [] mA mO rfl rfl ?_
  simp only [go_sem, and_true, true_and, implies_true, reduceIte, Nat.reduceEqDiff, Nat.reduceAdd, Nat.reduceLT, hka]
 ·have hel : (l.map crow).getD K [] = [] := by rw [List.getD_eq_getElem?_getD, List.getElem?_eq_none (by simpa using hge)]; rfl
  rw [List.getElem?_eq_none hge] at hka
  have hd : decide ((K : Int) < (l.length : Int)) = false := decide_eq_false (by omega)
  refine dr 0 [0, 0, 0, 4, 12, 30, 62, 126, 254, 126, 1022, 2046, 4094, 126, 16382, 32766, 127, 131071] mixed ?_
  refine evx2 hel hd ?_
  repeat refine ⟨sd, ?_⟩
  refine k3 (wps_ret ?_)
  refine retL [] mA mO rfl rfl ?_
  simp only [go_sem, and_true, true_and, implies_true, reduceIte, Nat.reduceEqDiff, Nat.reduceAdd, Nat.reduceLT, hka]

/-! ### pages with other cells -/
theorem cclone_ok (l : List Cel) (q : Option Nat) (hl : l.length ≤ 100000) : CallT Tryz.prog 147 [.u (.fz (l.map crow) q)] []
  fun r σ => r = .h 0 ∧ σ = [] ++ [.row 100 2 (l.map crow)] := by
 have h1 := crow_ok1 l
 have h2 := crow_ok2 l
 refine cof 8 [.tmp 2] Tryz.func147 Tryz.ntmps147 fun c hnt hc0 => ?_
 refine sq fun _ k1 => rgn 0 ?_
 repeat refine ⟨sd, ?_⟩
 refine k1 (sq fun _ k2 => sq fun _ k3 => ?_)
 refine wps_nilL (els := l.map crow) (q := q) (by rw [hnt]; decide) (by rw [hnt]; decide) Tryz.underlying48 rfl fun b hb => ?_
 refine k3 (cd rfl (fun h1 => ?_) (fun h1 => ?_))
 ·have hnil : l = [] := by simpa using hb h1
  subst hnil
  refine sq fun _ k4 => rgn 0 ?_
  repeat refine ⟨sd, ?_⟩
  refine k4 ?_
  refine wps_ent (e' := [(2, .h 0)]) (σ' := [.row 100 2 []]) ((ent_thaw 100 2 (t := 2) rfl).trans (entL hc0 [some 0] rfl rfl mB mB)) ?_
  refine wps_ret ?_
  refine retL [some 0] rfl ⟨trivial, trivial⟩ rfl rfl ?_
  simp only [go_sem, and_true, true_and, implies_true, reduceIte, Nat.reduceEqDiff, Nat.reduceAdd, Nat.reduceLT, List.map_nil, List.nil_append]
 ·refine wps_skip (k2 (sq fun _ k5 => rgn 1 ?_))
  repeat refine ⟨sd, ?_⟩
  refine k5 (wps_ret ?_)
  refine retL [some 0] rfl ⟨trivial, trivial⟩ rfl rfl ?_
  simp only [go_sem, and_true, true_and, implies_true, reduceIte, Nat.reduceEqDiff, Nat.reduceAdd, Nat.reduceLT, List.map_nil, List.nil_append]

theorem with_ok (p : Pg) (l : List Cel) (q q2 : Option Nat) (hl : l.length ≤ 100000) : CallT Tryz.prog 145 [pgA p q, .u (.fz (l.map crow) q2)] []
  fun r σ => r = pgA ⟨p.leaf, p.next, l⟩ (some l.length) ∧ σ = [] := by
 have htk : (l.map crow).take l.length = l.map crow := by rw [List.take_of_length_le]; simp
 have h1 := crow_ok1 l
 unfold pgA
 refine cof 13 [.cell 4 165] Tryz.func145 Tryz.ntmps145 fun c hnt hc0 => ?_
 refine sq fun _ k1 => rgn 2 ?_
 repeat refine ⟨sd, ?_⟩
 refine k1 (sq fun _ k2 => rg 0 ?_)
 refine evx htk ?_
 repeat refine ⟨sd, ?_⟩
 refine k2 (sq fun _ k3 => rgn 0 ?_)
 repeat refine ⟨sd, ?_⟩
 refine k3 (wps_ret ?_)
 refine retL [] mA mO rfl rfl ?_
 exact mT

theorem fnil (k : PV) : findPV k [] = none := rfl
theorem dnil (k : PV) : delPV k [] = [] := rfl
theorem knil (k : PV) : keysOK k [] := fun e he => by cases he

/-! ### the pager: what was written and not committed -/
def pgr (w : Sec) (vm gm : List (PV × PV)) (pr : List (List PV)) : List SObj := [.cells [.p 5 0, .p 4 0, .u (.i .i64 0), .u (.i .i64 200), .u (.i .u64 0), .h 1, .h 2, .h 3], .map [], .map (w.map sent), .map [], .cells [.p 5 0, .u (.i .i64 0), .u (.i .u64 0), .u (.i .i64 1)], .cells (dskC 6 7 8), .map vm, .map gm, .row 116 1 pr]

theorem has_ok (w : Sec) (vm gm : List (PV × PV)) (pr : List (List PV)) (id : Nat) : CallT Tryz.prog 106 [.p 0 0, .u (.i .i64 (id : Int))] (pgr w vm gm pr)
  fun r σ => r = .u (.b (sget id w).isSome) ∧ σ = pgr w vm gm pr := by
 have hg := sgot id w
 have hi := sin id w
 have hkeys := skeys id w
 obtain ⟨B, hB⟩ : ∃ B, (sget id w).isSome = B := ⟨_, rfl⟩
 rw [hB] at hi ⊢
 have hk0 := knil (.i .i64 (id : Int))
 unfold pgr dskC
 refine cof 46 [.tmp 4] Tryz.func106 Tryz.ntmps106 fun c hnt hc0 => ?_
 refine sq fun _ k1 => rgn 0 ?_
 repeat refine ⟨sd, ?_⟩
 refine k1 (sq fun _ k2 => rg 0 ?_)
 refine evx2 hg hi ?_
 repeat refine ⟨sd, ?_⟩
 refine k2 (sq fun _ k3 => rg 0 ?_)
 simp only [↓kOps_app, ↓evOps_nil, ↓evOps_cons, go_sem, Int.reduceAdd, Int.reduceBEq, Int.reduceEq, Int.reduceLE, Int.reduceLT, Int.reduceNe, Int.reduceSub, Int.reduceToNat, Nat.reduceAdd, Nat.reduceBEq, Nat.reduceEqDiff, Nat.reduceLT, Nat.reduceLeDiff, Nat.reduceMul, Nat.reduceSub, reduceCtorEq, reduceIte, fnil, Option.isSome_none, Option.getD_none]
 repeat refine ⟨sd, ?_⟩
 refine k3 (sq fun _ k4 => rg 1 ?_)
 simp only [↓kOps_app, ↓evOps_nil, ↓evOps_cons, go_sem, Int.reduceAdd, Int.reduceBEq, Int.reduceEq, Int.reduceLE, Int.reduceLT, Int.reduceNe, Int.reduceSub, Int.reduceToNat, Nat.reduceAdd, Nat.reduceBEq, Nat.reduceEqDiff, Nat.reduceLT, Nat.reduceLeDiff, Nat.reduceMul, Nat.reduceSub, reduceCtorEq, reduceIte, fnil, Option.isSome_none, Option.getD_none]
 repeat refine ⟨sd, ?_⟩
 refine k4 (sq fun _ k5 => rg 0 ?_)
 simp only [↓kOps_app, ↓evOps_nil, ↓evOps_cons, go_sem, Int.reduceAdd, Int.reduceBEq, Int.reduceEq, Int.reduceLE, Int.reduceLT, Int.reduceNe, Int.reduceSub, Int.reduceToNat, Nat.reduceAdd, Nat.reduceBEq, Nat.reduceEqDiff, Nat.reduceLT, Nat.reduceLeDiff, Nat.reduceMul, Nat.reduceSub, reduceCtorEq, reduceIte, Bool.and_false, Bool.not_false]
 repeat refine ⟨sd, ?_⟩
 refine k5 (wps_ret ?_)
 refine retL [some 0, some 1, some 2, some 3, some 4, some 5, some 6, some 7, some 8] rfl ⟨trivial, trivial⟩ rfl rfl ?_
 cases B <;> simp only [retSV, SV.mv, mvs, subL, List.map_nil, List.map_cons, SObj.mv, posOf, back, List.length_cons, List.length_nil, List.getElem?_cons_zero, List.getElem?_cons_succ, Option.map_some, Nat.reduceAdd, Nat.reduceLT, Nat.zero_add, Nat.lt_add_one, List.getD_cons_zero, List.getD_cons_succ, reduceIte, Nat.reduceEqDiff, Env.get, Env.put, and_true, true_and, implies_true, cond_true, cond_false, Bool.not_false, Bool.not_true]

theorem pread_ok (w : Sec) (vm gm : List (PV × PV)) (pr : List (List PV)) (id : Nat) (b : List UInt8) (hb : b.length ≤ 100000) (h : sget id w = some b) : CallT Tryz.prog 138 [.p 0 0, .u (.i .i64 (id : Int))] (pgr w vm gm pr)
  fun r σ => r = .tup [.u (.fz (bs b) none), .u (.i .i64 0)] ∧ σ = pgr w vm gm pr := by
 have hh := has_ok w vm gm pr id
 have hg := sgot id w
 have hi := sin id w
 have hkeys := skeys id w
 rw [h] at hg hi hh
 unfold pgr dskC at *
 refine cof 73 [.tmp 4, .tmp 5] Tryz.func138 Tryz.ntmps138 fun c hnt hc0 => ?_
 refine sq fun _ k1 => rgn 0 ?_
 repeat refine ⟨sd, ?_⟩
 refine k1 (sq fun _ k2 => sq fun _ k3 => rg 0 ?_)
 simp only [↓kOps_app, ↓evOps_nil, ↓evOps_cons, go_sem, Int.reduceAdd, Int.reduceBEq, Int.reduceEq, Int.reduceLE, Int.reduceLT, Int.reduceNe, Int.reduceSub, Int.reduceToNat, Nat.reduceAdd, Nat.reduceBEq, Nat.reduceEqDiff, Nat.reduceLT, Nat.reduceLeDiff, Nat.reduceMul, Nat.reduceSub, reduceCtorEq, reduceIte, Option.isSome_some]
 repeat refine ⟨sd, ?_⟩
 refine callT_at [0, 1, 2, 3, 4, 5, 6, 7, 8] [_, _, _, _, _, _, _, _, _] hh rfl rfl ⟨rfl, rfl, rfl, rfl, rfl, rfl, rfl, rfl, rfl, trivial⟩ mB mB rfl mR mR ?_
 simp only [↓kOps_app, ↓evOps_nil, ↓evOps_cons, go_sem, Int.reduceAdd, Int.reduceBEq, Int.reduceEq, Int.reduceLE, Int.reduceLT, Int.reduceNe, Int.reduceSub, Int.reduceToNat, Nat.reduceAdd, Nat.reduceBEq, Nat.reduceEqDiff, Nat.reduceLT, Nat.reduceLeDiff, Nat.reduceMul, Nat.reduceSub, reduceCtorEq, reduceIte, Option.isSome_some]
 repeat refine ⟨sd, ?_⟩
 refine k3 (cd rfl (fun h1 => ?_) (fun h1 => ?_))
 ·exact absurd h1 (by simp)
 ·refine wps_skip (k2 (sq fun _ k4 => sq fun _ k5 => rg 0 ?_))
  simp only [↓kOps_app, ↓evOps_nil, ↓evOps_cons, go_sem, Int.reduceAdd, Int.reduceBEq, Int.reduceEq, Int.reduceLE, Int.reduceLT, Int.reduceNe, Int.reduceSub, Int.reduceToNat, Nat.reduceAdd, Nat.reduceBEq, Nat.reduceEqDiff, Nat.reduceLT, Nat.reduceLeDiff, Nat.reduceMul, Nat.reduceSub, reduceCtorEq, reduceIte, hg, hi, zslice, Option.isSome_some]
  repeat refine ⟨sd, ?_⟩
  refine k5 (sq fun _ k6 => rgn 0 ?_)
  repeat refine ⟨sd, ?_⟩
  refine k6 (cd rfl (fun h2 => ?_) (fun h2 => ?_))
  ·refine sq fun _ k7 => rgn 1 ?_
   repeat refine ⟨sd, ?_⟩
   refine k7 ?_
   refine wps_ent (e' := [(4, .u (.fz (bs b) none)), (5, .u (.i .i64 0))]) (σ' := [.cells [.p 5 0, .p 4 0, .u (.i .i64 0), .u (.i .i64 200), .u (.i .u64 0), .h 1, .h 2, .h 3], .map [], .map (w.map sent), .map [], .cells [.p 5 0, .u (.i .i64 0), .u (.i .u64 0), .u (.i .i64 1)], .cells [.u (.i .i64 1000), .u (.i .i64 1000), .h 6, .h 7, .h 8], .map vm, .map gm, .row 116 1 pr]) ((entF 9 rfl (e' := [(4, .u (.fz (bs b) none)), (5, .u (.i .i64 0))]) mB rfl).trans (entL hc0 [some 0, some 1, some 2, some 3, some 4, some 5, some 6, some 7, some 8] rfl rfl mB mB)) ?_
   refine wps_ret ?_
   refine retL [some 0, some 1, some 2, some 3, some 4, some 5, some 6, some 7, some 8] mA mO rfl rfl ?_
   exact mT
  ·exact absurd h2 (by simp)

theorem pwrite_ok (w : Sec) (vm gm : List (PV × PV)) (pr : List (List PV)) (id : Nat) (b : List UInt8) (q : Option Nat) (hid : id < 90) (hb : b.length ≤ 2048) : CallT Tryz.prog 108 [.p 0 0, .u (.i .i64 (id : Int)), .u (.fz (bs b) q)] (pgr w vm gm pr)
  fun r σ => r = .u (.i .i64 0) ∧ σ = pgr (sput id b w) vm gm pr := by
 have hg := sgot id w
 have hi := sin id w
 have hkeys := skeys id w
 have h1a : decide ((id : Int) < 0) = false := by simp
 have h1b : decide ((90 : Int) ≤ (id : Int)) = false := decide_eq_false (by omega)
 have h1c : decide ((2048 : Int) < (b.length : Int)) = false := decide_eq_false (by omega)
 have hk0 := knil (.i .i64 (id : Int))
 unfold pgr dskC
 refine cof 31 [.tmp 6] Tryz.func108 Tryz.ntmps108 fun c hnt hc0 => ?_
 refine sq fun _ k1 => rgn 0 ?_
 repeat refine ⟨sd, ?_⟩
 refine k1 (sq fun _ k2 => bk fun _ k3 => sq fun _ k4 => rg 0 ?_)
 refine evx2 h1a h1b ?_
 repeat refine ⟨sd, ?_⟩
 refine k4 (cd rfl (fun h1 => ?_) (fun h1 => ?_))
 ·exact absurd h1 (by simp)
 ·refine sq fun _ k5 => rg 0 ?_
  refine evx h1c ?_
  repeat refine ⟨sd, ?_⟩
  refine k5 (cd rfl (fun h2 => ?_) (fun h2 => ?_))
  ·exact absurd h2 (by simp)
  ·refine wps_skip (k3 (k2 (sq fun _ k6 => dr 1 [0, 1, 3, 7, 0, 0, 0, 96, 255] mixed ?_)))
   refine evx @sputE ?_
   repeat refine ⟨sd, ?_⟩
   refine k6 (sq fun _ k7 => rg 0 ?_)
   refine evx @dnil ?_
   repeat refine ⟨sd, ?_⟩
   refine k7 (sq fun _ k8 => rgn 0 ?_)
   repeat refine ⟨sd, ?_⟩
   refine k8 (wps_ret ?_)
   refine retL [some 0, some 1, some 2, some 3, some 4, some 5, some 6, some 7, some 8] rfl ⟨trivial, trivial⟩ rfl rfl ?_
   exact mT

theorem palloc_ok (w : Sec) (vm gm : List (PV × PV)) (pr : List (List PV)) (m : Nat) (b : List UInt8) (q : Option Nat) (hm : m < 90) (hb : b.length ≤ 2048) (hha : ∀ i, i < m → (sget i w).isSome = true) (hhb : sget m w = none) : CallT Tryz.prog 167 [.p 0 0, .u (.fz (bs b) q)] (pgr w vm gm pr)
  fun r σ => r = .tup [.u (.i .i64 (m : Int)), .u (.i .i64 0)] ∧ σ = pgr (sput m b w) vm gm pr := by
 have hh := fun i => has_ok w vm gm pr i
 have hw := pwrite_ok w vm gm pr m b q hm hb
 have h1c : decide ((2048 : Int) < (b.length : Int)) = false := decide_eq_false (by omega)
 unfold pgr dskC at *
 refine cof 23 [.tmp 4, .tmp 5] Tryz.func167 Tryz.ntmps167 fun c hnt hc0 => ?_
 refine sq fun _ k1 => rgn 0 ?_
 repeat refine ⟨sd, ?_⟩
 refine k1 (sq fun _ k2 => sq fun _ k3 => rg 0 ?_)
 refine evx h1c ?_
 repeat refine ⟨sd, ?_⟩
 refine k3 (cd rfl (fun h1 => ?_) (fun h1 => ?_))
 ·exact absurd h1 (by simp)
 ·refine wps_skip (k2 (sq fun _ k4 => sq fun _ k5 => rgn 0 ?_))
  repeat refine ⟨sd, ?_⟩
  refine k5 (bk fun _ k6 => ?_)
  refine wps_loop (fun k e σ => ∃ i : Nat, k = m - i ∧ i ≤ m ∧ e = [(0, .p 0 0), (1, .u (.fz (bs b) q)), (10, .u (.i .i64 (i : Int)))] ∧ σ = [.cells [.p 5 0, .p 4 0, .u (.i .i64 0), .u (.i .i64 200), .u (.i .u64 0), .h 1, .h 2, .h 3], .map [], .map (w.map sent), .map [], .cells [.p 5 0, .u (.i .i64 0), .u (.i .u64 0), .u (.i .i64 1)], .cells [.u (.i .i64 1000), .u (.i .i64 1000), .h 6, .h 7, .h 8], .map vm, .map gm, .row 116 1 pr])
   (e0 := [(0, .p 0 0), (1, .u (.fz (bs b) q)), (10, .u (.i .i64 0))]) (σ0 := [.cells [.p 5 0, .p 4 0, .u (.i .i64 0), .u (.i .i64 200), .u (.i .u64 0), .h 1, .h 2, .h 3], .map [], .map (w.map sent), .map [], .cells [.p 5 0, .u (.i .i64 0), .u (.i .u64 0), .u (.i .i64 1)], .cells [.u (.i .i64 1000), .u (.i .i64 1000), .h 6, .h 7, .h 8], .map vm, .map gm, .row 116 1 pr]) (entL hc0 [some 0, some 1, some 2, some 3, some 4, some 5, some 6, some 7, some 8] rfl rfl mB mB) ⟨0, rfl, Nat.zero_le _, rfl, rfl⟩ fun KL k e1 σ1 hI hKL => ?_
  obtain ⟨i, rfl, hi, rfl, rfl⟩ := hI
  have hlt : decide ((i : Int) < 90) = true := decide_eq_true (by omega)
  have hw1 := wi1 i
  refine sq fun _ k7 => rg 0 ?_
  refine evx hlt ?_
  repeat refine ⟨sd, ?_⟩
  refine k7 (sq fun _ k8 => cd rfl (fun h2 => ?_) (fun h2 => ?_))
  ·refine wps_skip (k8 (sq fun _ k9 => bk fun _ k10 => sq fun _ k11 => rgn 0 ?_))
   repeat refine ⟨sd, ?_⟩
   refine k11 (sq fun _ k12 => rgn 0 ?_)
   repeat refine ⟨sd, ?_⟩
   refine callT_at [0, 1, 2, 3, 4, 5, 6, 7, 8] [_, _, _, _, _, _, _, _, _] (hh i) rfl rfl ⟨rfl, rfl, rfl, rfl, rfl, rfl, rfl, rfl, rfl, trivial⟩ mB mB rfl mR mR ?_
   refine evl ?_
   repeat refine ⟨sd, ?_⟩
   refine k12 (cd rfl (fun h3 => ?_) (fun h3 => ?_))
   ·have him : i = m := by
     rcases Nat.lt_or_ge i m with h | h
     ·have h3' := h3
      rw [hha i h] at h3'; exact absurd h3' (by simp)
     ·omega
    subst him
    refine sq fun _ k13 => rgn 0 ?_
    repeat refine ⟨sd, ?_⟩
    refine callT_at [0, 1, 2, 3, 4, 5, 6, 7, 8] [_, _, _, _, _, _, _, _, _] hw rfl rfl ⟨rfl, rfl, rfl, rfl, rfl, rfl, rfl, rfl, rfl, trivial⟩ mB mB rfl mR mR ?_
    refine evl ?_
    repeat refine ⟨sd, ?_⟩
    refine k13 (wps_ret ?_)
    refine retL [some 0, some 1, some 2, some 3, some 4, some 5, some 6, some 7, some 8] mA mO rfl rfl ?_
    exact mT
   ·have him : i < m := by
     rcases Nat.lt_or_ge i m with h | h
     ·exact h
     ·have : i = m := by omega
      subst this
      have h3' := h3
      rw [hhb] at h3'; exact absurd h3' (by simp)
    refine wps_skip (k10 (k9 (rg 0 ?_)))
    refine evx hw1 ?_
    repeat refine ⟨sd, ?_⟩
    exact hKL _ _ (m - (i + 1)) _ _ (entL hc0 [some 0, some 1, some 2, some 3, some 4, some 5, some 6, some 7, some 8] rfl rfl mB mB) ⟨i + 1, rfl, by omega, rfl, rfl⟩ (by omega)
  ·exact absurd h2 (by simp)

def irow (i : Nat) : List PV := [.i .i64 (i : Int)]
def pagesL (w : Sec) : Nat → List Nat
 | 0 => []
 | n + 1 => pagesL w n ++ (if (sget n w).isSome then [n] else [])
theorem pagesL_len (w : Sec) : ∀ n, (pagesL w n).length ≤ n
 | 0 => Nat.le_refl _
 | n + 1 => by
  have := pagesL_len w n
  rw [pagesL, List.length_append]
  split <;> simp <;> omega
theorem irow_ok1 (l : List Nat) : ∀ y ∈ l.map irow, y.length = 1 := by
 intro y hy
 obtain ⟨x, _, rfl⟩ := List.mem_map.1 hy
 rfl
theorem irow_ok2 (l : List Nat) : ∀ y ∈ l.map irow, ∀ p ∈ y, PV.one p = true := by
 intro y hy p hp
 obtain ⟨x, _, rfl⟩ := List.mem_map.1 hy
 simp only [irow, List.mem_cons, List.not_mem_nil, or_false] at hp
 subst hp; rfl

theorem pages_ok (w : Sec) (vm gm : List (PV × PV)) (pr : List (List PV)) : CallT Tryz.prog 68 [.p 0 0] (pgr w vm gm pr)
  fun r σ => r = .u (.fz ((pagesL w 90).map irow) none) ∧ σ = pgr w vm gm pr := by
 obtain ⟨L, hL⟩ : ∃ L, pagesL w 90 = L := ⟨_, rfl⟩
 rw [hL]
 have hh := fun i => has_ok w vm gm pr i
 unfold pgr dskC at *
 refine cof 17 [.tmp 2] Tryz.func68 Tryz.ntmps68 fun c hnt hc0 => ?_
 refine sq fun _ k1 => rgn 0 ?_
 repeat refine ⟨sd, ?_⟩
 refine k1 (sq fun _ k2 => rgn 0 ?_)
 repeat refine ⟨sd, ?_⟩
 refine k2 (sq fun _ k3 => sq fun _ k4 => rgn 0 ?_)
 repeat refine ⟨sd, ?_⟩
 refine k4 (bk fun _ k5 => ?_)
 refine wps_loop (fun k e σ => ∃ i : Nat, k = 90 - i ∧ i ≤ 90 ∧ e = [(0, .p 0 0), (3, .h 9), (5, .u (.i .i64 (i : Int)))] ∧ σ = [.cells [.p 5 0, .p 4 0, .u (.i .i64 0), .u (.i .i64 200), .u (.i .u64 0), .h 1, .h 2, .h 3], .map [], .map (w.map sent), .map [], .cells [.p 5 0, .u (.i .i64 0), .u (.i .u64 0), .u (.i .i64 1)], .cells [.u (.i .i64 1000), .u (.i .i64 1000), .h 6, .h 7, .h 8], .map vm, .map gm, .row 116 1 pr] ++ [.row 3 1 ((pagesL w i).map irow)])
  (e0 := [(0, .p 0 0), (3, .h 9), (5, .u (.i .i64 0))]) (σ0 := [.cells [.p 5 0, .p 4 0, .u (.i .i64 0), .u (.i .i64 200), .u (.i .u64 0), .h 1, .h 2, .h 3], .map [], .map (w.map sent), .map [], .cells [.p 5 0, .u (.i .i64 0), .u (.i .u64 0), .u (.i .i64 1)], .cells [.u (.i .i64 1000), .u (.i .i64 1000), .h 6, .h 7, .h 8], .map vm, .map gm, .row 116 1 pr] ++ [.row 3 1 []]) ((ent_thaw 3 1 (t := 3) rfl).trans (entL hc0 [some 0, some 1, some 2, some 3, some 4, some 5, some 6, some 7, some 8, some 9] rfl rfl mB mB)) ⟨0, rfl, Nat.zero_le _, rfl, rfl⟩ fun KL k e1 σ1 hI hKL => ?_
 obtain ⟨i, rfl, hi, rfl, rfl⟩ := hI
 simp only [List.cons_append, List.nil_append]
 refine sq fun _ k6 => rgn 0 ?_
 repeat refine ⟨sd, ?_⟩
 refine k6 (sq fun _ k7 => cd rfl (fun h1 => ?_) (fun h1 => ?_))
 ·have hlt : i < 90 := by simp at h1; omega
  have hw1 := wi1 i
  have hpl := pagesL_len w i
  have hr1 := irow_ok1 (pagesL w i)
  have hr2 := irow_ok2 (pagesL w i)
  have hpn : pagesL w (i + 1) = pagesL w i ++ (if (sget i w).isSome then [i] else []) := rfl
  refine wps_skip (k7 (sq fun _ k8 => bk fun _ k9 => sq fun _ k10 => rgn 0 ?_))
  repeat refine ⟨sd, ?_⟩
  refine k10 (sq fun _ k11 => rgn 0 ?_)
  repeat refine ⟨sd, ?_⟩
  refine callT_at [0, 1, 2, 3, 4, 5, 6, 7, 8] [_, _, _, _, _, _, _, _, _] (hh i) rfl rfl ⟨rfl, rfl, rfl, rfl, rfl, rfl, rfl, rfl, rfl, trivial⟩ mB mB rfl mR mR ?_
  refine evl ?_
  repeat refine ⟨sd, ?_⟩
  refine k11 (cd rfl (fun h2 => ?_) (fun h2 => ?_))
  ·rw [if_pos h2] at hpn
   refine rgn 1 ?_
   repeat refine ⟨sd, ?_⟩
   refine k9 (k8 (rg 0 ?_))
   refine evx hw1 ?_
   repeat refine ⟨sd, ?_⟩
   exact hKL _ _ (90 - (i + 1)) _ ([.cells [.p 5 0, .p 4 0, .u (.i .i64 0), .u (.i .i64 200), .u (.i .u64 0), .h 1, .h 2, .h 3], .map [], .map (w.map sent), .map [], .cells [.p 5 0, .u (.i .i64 0), .u (.i .u64 0), .u (.i .i64 1)], .cells [.u (.i .i64 1000), .u (.i .i64 1000), .h 6, .h 7, .h 8], .map vm, .map gm, .row 116 1 pr] ++ [.row 3 1 ((pagesL w (i + 1)).map irow)]) (entL hc0 [some 0, some 1, some 2, some 3, some 4, some 5, some 6, some 7, some 8, some 10] rfl rfl mB (by rw [hpn, List.map_append]; simp only [go_sem, reduceIte, Nat.reduceEqDiff, Nat.reduceAdd, Nat.reduceLT, List.map_cons, List.map_nil, irow, List.cons_append, List.nil_append])) ⟨i + 1, rfl, by omega, rfl, rfl⟩ (by omega)
  ·rw [if_neg (by rw [h2]; simp), List.append_nil] at hpn
   refine wps_skip (k9 (k8 (rg 0 ?_)))
   refine evx hw1 ?_
   repeat refine ⟨sd, ?_⟩
   exact hKL _ _ (90 - (i + 1)) _ ([.cells [.p 5 0, .p 4 0, .u (.i .i64 0), .u (.i .i64 200), .u (.i .u64 0), .h 1, .h 2, .h 3], .map [], .map (w.map sent), .map [], .cells [.p 5 0, .u (.i .i64 0), .u (.i .u64 0), .u (.i .i64 1)], .cells [.u (.i .i64 1000), .u (.i .i64 1000), .h 6, .h 7, .h 8], .map vm, .map gm, .row 116 1 pr] ++ [.row 3 1 ((pagesL w (i + 1)).map irow)]) (entL hc0 [some 0, some 1, some 2, some 3, some 4, some 5, some 6, some 7, some 8, some 9] rfl rfl mB (by rw [hpn]; simp only [go_sem, reduceIte, Nat.reduceEqDiff, Nat.reduceAdd, Nat.reduceLT, List.cons_append, List.nil_append])) ⟨i + 1, rfl, by omega, rfl, rfl⟩ (by omega)
 ·have hi90 : i = 90 := by simp at h1; omega
  subst hi90
  rw [hL]
  refine wps_exit ?_
  simp only [reduceIte, Nat.reduceEqDiff]
  refine k5 (k3 (sq fun _ k12 => rgn 0 ?_))
  repeat refine ⟨sd, ?_⟩
  refine k12 ?_
  refine wps_ent (e' := [(2, .u (.fz (L.map irow) none))]) (σ' := [.cells [.p 5 0, .p 4 0, .u (.i .i64 0), .u (.i .i64 200), .u (.i .u64 0), .h 1, .h 2, .h 3], .map [], .map (w.map sent), .map [], .cells [.p 5 0, .u (.i .i64 0), .u (.i .u64 0), .u (.i .i64 1)], .cells [.u (.i .i64 1000), .u (.i .i64 1000), .h 6, .h 7, .h 8], .map vm, .map gm, .row 116 1 pr]) ((entF 9 rfl (e' := [(2, .u (.fz (L.map irow) none))]) mB rfl).trans (entL hc0 [some 0, some 1, some 2, some 3, some 4, some 5, some 6, some 7, some 8] rfl rfl mB mB)) ?_
  refine wps_ret ?_
  refine retL [some 0, some 1, some 2, some 3, some 4, some 5, some 6, some 7, some 8] rfl ⟨trivial, trivial⟩ rfl rfl ?_
  exact mT

/-! ### a tree's pages -/
abbrev PgM := List (Nat × Pg)
def enc (W : PgM) : Sec := W.map fun e => (e.1, pageS e.2)
def pget (k : Nat) : PgM → Option Pg
 | [] => none
 | e :: es => if k = e.1 then some e.2 else pget k es
def pput (k : Nat) (x : Pg) : PgM → PgM
 | [] => [(k, x)]
 | e :: es => if k = e.1 then (k, x) :: es else e :: pput k x es
theorem enc_get (k : Nat) : ∀ W : PgM, sget k (enc W) = (pget k W).map pageS
 | [] => rfl
 | e :: es => by
  have ih := enc_get k es
  unfold enc at ih ⊢
  simp only [List.map_cons, sget, pget]
  by_cases h : k = e.1
  ·rw [if_pos h, if_pos h]; rfl
  ·rw [if_neg h, if_neg h]; exact ih
theorem enc_put (k : Nat) (x : Pg) : ∀ W : PgM, sput k (pageS x) (enc W) = enc (pput k x W)
 | [] => rfl
 | e :: es => by
  have ih := enc_put k x es
  unfold enc at ih ⊢
  simp only [List.map_cons, sput, pput]
  by_cases h : k = e.1
  ·rw [if_pos h, if_pos h]; rfl
  ·rw [if_neg h, if_neg h, List.map_cons, ih]
def tre (W : PgM) (vm gm : List (PV × PV)) (pr : List (List PV)) : List SObj := [.cells [.p 1 0], .cells [.p 6 0, .p 5 0, .u (.i .i64 0), .u (.i .i64 200), .u (.i .u64 0), .h 2, .h 3, .h 4], .map [], .map ((enc W).map sent), .map [], .cells [.p 6 0, .u (.i .i64 0), .u (.i .u64 0), .u (.i .i64 1)], .cells (dskC 7 8 9), .map vm, .map gm, .row 116 1 pr]

theorem lead_ok (key : List UInt8) (id : Nat) (hid : id < 1000000) : CallT Tryz.prog 156 [.u (.s key), .u (.i .i64 (id : Int))] []
  fun r σ => r = .agg [.u (.s key), .u (.s (vput id))] ∧ σ = [] := by
 have hp := putvar_fz [] (some 0) id (by simp) (by omega)
 simp only [bs_nil, List.nil_append] at hp
 have hwu := wrapu_nat (n := id) (by omega)
 refine cof 11 [.cell 4 100] Tryz.func156 Tryz.ntmps156 fun c hnt hc0 => ?_
 refine sq fun _ k1 => rgn 1 ?_
 repeat refine ⟨sd, ?_⟩
 refine k1 (sq fun _ k2 => rg 0 ?_)
 refine evx2 hwu @bytesOf_bs ?_
 repeat refine ⟨sd, ?_⟩
 refine callT_new hp mB ?_
 refine rtl ?_
 refine evx2 hwu @bytesOf_bs ?_
 repeat refine ⟨sd, ?_⟩
 refine k2 (wps_ret ?_)
 refine retL [] mA mO rfl rfl ?_
 exact mT

theorem child_ok (key : List UInt8) (id : Nat) (h0 : 0 < id) (hid : id < 90) : CallT Tryz.prog 111 [.agg [.u (.s key), .u (.s (vput id))]] []
  fun r σ => r = .u (.i .i64 (id : Int)) ∧ σ = [] := by
 have h10 := vput_10 id (by omega)
 have hg := getvar_ok id [] none (by omega) (by simp)
 rw [List.append_nil] at hg
 have hwi : IntKind.i64.wrap (id : Int) = id := wrap64 (by omega) (by omega)
 have hz : ((id : Int) == 0) = false := beq_eq_false_iff_ne.2 (by omega)
 have hd : decide ((90 : Int) ≤ (id : Int)) = false := decide_eq_false (by omega)
 refine cof 26 [.tmp 2] Tryz.func111 Tryz.ntmps111 fun c hnt hc0 => ?_
 refine sq fun _ k1 => rgn 1 ?_
 repeat refine ⟨sd, ?_⟩
 refine k1 (sq fun _ k2 => rgn 0 ?_)
 repeat refine ⟨sd, ?_⟩
 refine callT_at [] [] hg rfl rfl trivial mB mB rfl mR mR ?_
 refine evl ?_
 repeat refine ⟨sd, ?_⟩
 refine k2 (sq fun _ k3 => sq fun _ k4 => rg 0 ?_)
 refine evx2 hz hd ?_
 repeat refine ⟨sd, ?_⟩
 refine k4 (cd rfl (fun h1 => ?_) (fun h1 => ?_))
 ·exact absurd h1 (by simp)
 ·refine wps_skip (k3 (sq fun _ k5 => rg 0 ?_))
  refine evx hwi ?_
  repeat refine ⟨sd, ?_⟩
  refine k5 (wps_ret ?_)
  refine retL [] rfl ⟨trivial, trivial⟩ rfl rfl ?_
  exact mT

theorem tread_ok (W : PgM) (vm gm : List (PV × PV)) (pr : List (List PV)) (id : Nat) (p : Pg) (h : pget id W = some p) (hp : PgOK p) : CallT Tryz.prog 109 [.p 0 0, .u (.i .i64 (id : Int))] (tre W vm gm pr)
  fun r σ => r = .tup [pgA p none, .u (.b true)] ∧ σ = tre W vm gm pr := by
 have hr := pread_ok (enc W) vm gm pr id (pageS p) (by have := hp.size; omega) (by rw [enc_get, h]; rfl)
 have ho := pgof_ok p none hp
 unfold tre pgr dskC pgA at *
 refine cof 29 [.cell 4 165, .tmp 5] Tryz.func109 Tryz.ntmps109 fun c hnt hc0 => ?_
 refine sq fun _ k1 => rgn 1 ?_
 repeat refine ⟨sd, ?_⟩
 refine k1 (sq fun _ k2 => rgn 0 ?_)
 repeat refine ⟨sd, ?_⟩
 refine callT_at [1, 2, 3, 4, 5, 6, 7, 8, 9] [_, _, _, _, _, _, _, _, _] hr rfl rfl ⟨rfl, rfl, rfl, rfl, rfl, rfl, rfl, rfl, rfl, trivial⟩ mB mB rfl mR mR ?_
 refine evl ?_
 repeat refine ⟨sd, ?_⟩
 refine k2 (sq fun _ k3 => sq fun _ k4 => rgn 0 ?_)
 repeat refine ⟨sd, ?_⟩
 refine k4 (cd rfl (fun h1 => ?_) (fun h1 => ?_))
 ·exact absurd h1 (by simp)
 ·refine wps_skip (k3 (sq fun _ k5 => rgn 1 ?_))
  repeat refine ⟨sd, ?_⟩
  refine callT_at [] [] ho rfl rfl trivial mB mB rfl mR mR ?_
  refine evl ?_
  repeat refine ⟨sd, ?_⟩
  refine k5 (sq fun _ k6 => rgn 0 ?_)
  repeat refine ⟨sd, ?_⟩
  refine k6 (wps_ret ?_)
  refine retL [some 0, some 1, some 2, some 3, some 4, some 5, some 6, some 7, some 8, some 9] mA mO rfl rfl ?_
  exact mT

theorem twrite_ok (W : PgM) (vm gm : List (PV × PV)) (pr : List (List PV)) (id : Nat) (p : Pg) (q : Option Nat) (hid : id < 90) (hp : PgOK p) : CallT Tryz.prog 69 [.p 0 0, .u (.i .i64 (id : Int)), pgA p q] (tre W vm gm pr)
  fun r σ => r = .tup [] ∧ σ = tre (pput id p W) vm gm pr := by
 have hw := pwrite_ok (enc W) vm gm pr id (pageS p) none hid hp.size
 have hb := pgbytes_ok p q hp
 rw [enc_put] at hw
 unfold tre pgr dskC pgA at *
 refine cof 20 [] Tryz.func69 Tryz.ntmps69 fun c hnt hc0 => ?_
 refine sq fun _ k1 => rgn 1 ?_
 repeat refine ⟨sd, ?_⟩
 refine k1 (sq fun _ k2 => rgn 0 ?_)
 repeat refine ⟨sd, ?_⟩
 refine callT_new hb mB ?_
 refine rtl ?_
 refine evl ?_
 repeat refine ⟨sd, ?_⟩
 refine k2 (rgn 0 ?_)
 repeat refine ⟨sd, ?_⟩
 refine callT_frz 11 rfl ?_
 simp only [go_sem, reduceIte, Nat.reduceEqDiff]
 refine callT_at [1, 2, 3, 4, 5, 6, 7, 8, 9] [_, _, _, _, _, _, _, _, _] hw rfl rfl ⟨rfl, rfl, rfl, rfl, rfl, rfl, rfl, rfl, rfl, trivial⟩ mB mB rfl mR mR ?_
 refine evl ?_
 repeat refine ⟨sd, ?_⟩
 refine retL [some 0, some 1, some 2, some 3, some 4, some 5, some 6, some 7, some 8, some 9] rfl trivial rfl rfl ?_
 exact mT

theorem talloc_ok (W : PgM) (vm gm : List (PV × PV)) (pr : List (List PV)) (m : Nat) (p : Pg) (q : Option Nat) (hm : m < 90) (hp : PgOK p) (hha : ∀ i, i < m → (pget i W).isSome = true) (hhb : pget m W = none) : CallT Tryz.prog 155 [.p 0 0, pgA p q] (tre W vm gm pr)
  fun r σ => r = .u (.i .i64 (m : Int)) ∧ σ = tre (pput m p W) vm gm pr := by
 have hw := palloc_ok (enc W) vm gm pr m (pageS p) none hm hp.size (fun i hi => by rw [enc_get]; have := hha i hi; cases hg : pget i W <;> simp [hg] at this ⊢) (by rw [enc_get, hhb]; rfl)
 have hb := pgbytes_ok p q hp
 rw [enc_put] at hw
 unfold tre pgr dskC pgA at *
 refine cof 24 [.tmp 4] Tryz.func155 Tryz.ntmps155 fun c hnt hc0 => ?_
 refine sq fun _ k1 => rgn 1 ?_
 repeat refine ⟨sd, ?_⟩
 refine k1 (sq fun _ k2 => rgn 0 ?_)
 repeat refine ⟨sd, ?_⟩
 refine callT_new hb mB ?_
 refine rtl ?_
 refine evl ?_
 repeat refine ⟨sd, ?_⟩
 refine k2 (sq fun _ k3 => rgn 0 ?_)
 repeat refine ⟨sd, ?_⟩
 refine callT_frz 11 rfl ?_
 simp only [go_sem, reduceIte, Nat.reduceEqDiff]
 refine callT_at [1, 2, 3, 4, 5, 6, 7, 8, 9] [_, _, _, _, _, _, _, _, _] hw rfl rfl ⟨rfl, rfl, rfl, rfl, rfl, rfl, rfl, rfl, rfl, trivial⟩ mB mB rfl mR mR ?_
 refine evl ?_
 repeat refine ⟨sd, ?_⟩
 refine k3 (sq fun _ k4 => rgn 0 ?_)
 repeat refine ⟨sd, ?_⟩
 refine k4 (wps_ret ?_)
 refine retL [some 0, some 1, some 2, some 3, some 4, some 5, some 6, some 7, some 8, some 9] rfl ⟨trivial, trivial⟩ rfl rfl ?_
 exact mT
end Go.Proofs.YtefipnajpabfgaaGreatDoor
