/- Part 15 of the proof: what functions of the program do, and plain facts on what they compute. -/
import Derived.Test.YtefipnajpabfgaaGreatDoorP14
set_option linter.all false
set_option maxRecDepth 40000
set_option maxHeartbeats 16000000
set_option linter.unusedSimpArgs false
set_option linter.unusedVariables false
namespace Go.Proofs.YtefipnajpabfgaaGreatDoor
open Go.Nm

/-! ### keys with versions, as cells -/
abbrev Wr := List UInt8 × List UInt8 × Bool
def vkey (k : List UInt8) (t : Nat) : List UInt8 := 100 :: keyS k t
def vval (w : Wr) : List UInt8 := if w.2.2 then [1] else 0 :: w.2.1
def verC (t : Nat) (w : Wr) : Cel := (vkey w.1 t, vval w)
def titC (n : Nat) : Cel := ([109], vput n ++ vput 0)
structure WrOK (w : Wr) : Prop where
 k0 : w.1 ≠ []
 k1 : w.1.length ≤ 64
 v1 : w.2.1.length ≤ 256
 g : w.2.2 = true → w.2.1 = []

theorem told_ok (n : Nat) (hn : n < 18446744073709551616) : CallT Tryz.prog 33 [.u (.i .u64 (n : Int)), .u (.i .u64 0)] []
  fun r σ => r = .agg [.u (.s (titC n).1), .u (.s (titC n).2), .u (.b false)] ∧ σ = [] := by
 have hw := wnew_ok
 have h10 := vput_10 n hn
 have h11 := vput_10 0 (by omega)
 have hnu := wnum_ok [] [n, 0] (some 2) (by simp; omega) (by simp)
 simp only [wrC, wrN, List.map_cons, List.map_nil, urow, vputs, List.flatMap_cons, List.flatMap_nil, List.append_nil, List.nil_append, nl0] at hw hnu
 have hby := wbytes_ok (vput n ++ vput 0) (by simp; omega)
 simp only [wrC] at hby
 unfold titC
 simp only
 refine cof 22 [.cell 4 85] Tryz.func33 Tryz.ntmps33 fun c hnt hc0 => ?_
 refine sq fun _ k1 => rgn 1 ?_
 repeat refine ⟨sd, ?_⟩
 refine k1 (sq fun _ k2 => rgn 0 ?_)
 repeat refine ⟨sd, ?_⟩
 refine callT_new hw mB ?_
 refine rtl ?_
 refine evl ?_
 repeat refine ⟨sd, ?_⟩
 refine k2 (sq fun _ k3 => rgn 0 ?_)
 repeat refine ⟨sd, ?_⟩
 refine callT_atN [1, 2] [_, _] hnu rfl rfl ⟨rfl, rfl, trivial⟩ mB mB rfl ?_
 refine fxl ?_
 refine evl ?_
 repeat refine ⟨sd, ?_⟩
 refine k3 (sq fun _ k4 => rgn 0 ?_)
 repeat refine ⟨sd, ?_⟩
 refine callT_at [1, 3] [_, _] hby rfl rfl ⟨rfl, rfl, trivial⟩ mB mB rfl mR mR ?_
 refine evl ?_
 repeat refine ⟨sd, ?_⟩
 refine k4 (sq fun _ k5 => rg 0 ?_)
 refine evx @bytesOf_bs ?_
 repeat refine ⟨sd, ?_⟩
 refine k5 (wps_ret ?_)
 refine retL [] mA mO rfl rfl ?_
 exact mT

theorem vbytes_ok (k : List UInt8) (t : Nat) (hk : k.length ≤ 64) (ht : t < 18446744073709551616) : CallT Tryz.prog 34 [.u (.s k), .u (.i .u64 (t : Int))] [] fun r σ => r = .u (.s (vkey k t)) ∧ σ = [] := by
 have hp := keyput_ok k t hk ht
 have hkl := esc_len k
 have hks : (keyS k t).length ≤ 138 := by simp [keyS, be8_len]; omega
 refine cof 16 [.tmp 4] Tryz.func34 Tryz.ntmps34 fun c hnt hc0 => ?_
 refine sq fun _ k1 => rgn 0 ?_
 repeat refine ⟨sd, ?_⟩
 refine k1 (sq fun _ k2 => rgn 0 ?_)
 repeat refine ⟨sd, ?_⟩
 refine callT_new hp mB ?_
 refine rtl ?_
 refine evl ?_
 repeat refine ⟨sd, ?_⟩
 refine k2 (sq fun _ k3 => rg 0 ?_)
 refine evx @bytesOf_bs ?_
 repeat refine ⟨sd, ?_⟩
 refine k3 (wps_ret ?_)
 refine retL [] rfl ⟨trivial, trivial⟩ rfl rfl ?_
 simp only [go_sem, and_true, true_and, implies_true, reduceIte, Nat.reduceEqDiff, Nat.reduceAdd, Nat.reduceLT, vkey, List.cons_append, List.nil_append]

theorem vfirst_ok (k : List UInt8) (hk : k.length ≤ 64) : CallT Tryz.prog 102 [.u (.s k)] [] fun r σ => r = .u (.s (vkey k 18446744073709551615)) ∧ σ = [] := by
 have hp := vbytes_ok k 18446744073709551615 hk (by omega)
 rw [show ((18446744073709551615 : Nat) : Int) = 18446744073709551615 from rfl] at hp
 refine cof 5 [.tmp 2] Tryz.func102 Tryz.ntmps102 fun c hnt hc0 => ?_
 refine sq fun _ k1 => rgn 0 ?_
 repeat refine ⟨sd, ?_⟩
 refine k1 (sq fun _ k2 => rgn 0 ?_)
 repeat refine ⟨sd, ?_⟩
 refine callT_at [] [] hp rfl rfl trivial mB mB rfl mR mR ?_
 refine evl ?_
 repeat refine ⟨sd, ?_⟩
 refine k2 (wps_ret ?_)
 refine retL [] rfl ⟨trivial, trivial⟩ rfl rfl ?_
 exact mT

theorem vshow_ok (a : Int) (w : Wr) (hv : w.2.1.length ≤ 1000) : CallT Tryz.prog 35 [.agg [.u (.i .u64 a), .u (.s w.2.1), .u (.b w.2.2)]] [] fun r σ => r = .u (.s (vval w)) ∧ σ = [] := by
 obtain ⟨k, v, gn⟩ := w
 simp only at *
 refine cof 8 [.tmp 2] Tryz.func35 Tryz.ntmps35 fun c hnt hc0 => ?_
 refine sq fun _ k1 => rgn 1 ?_
 repeat refine ⟨sd, ?_⟩
 refine k1 (sq fun _ k2 => sq fun _ k3 => rgn 0 ?_)
 repeat refine ⟨sd, ?_⟩
 refine k3 (cd rfl (fun h1 => ?_) (fun h1 => ?_))
 ·subst h1
  refine sq fun _ k4 => rgn 0 ?_
  repeat refine ⟨sd, ?_⟩
  refine k4 (wps_ret ?_)
  refine retL [] rfl ⟨trivial, trivial⟩ rfl rfl ?_
  simp only [go_sem, and_true, true_and, implies_true, reduceIte, Nat.reduceEqDiff, Nat.reduceAdd, Nat.reduceLT, vval, Bool.false_eq_true, reduceIte, List.cons_append, List.nil_append]
 ·subst h1
  refine wps_skip (k2 (sq fun _ k5 => rgn 0 ?_))
  repeat refine ⟨sd, ?_⟩
  refine k5 (wps_ret ?_)
  refine retL [] rfl ⟨trivial, trivial⟩ rfl rfl ?_
  simp only [go_sem, and_true, true_and, implies_true, reduceIte, Nat.reduceEqDiff, Nat.reduceAdd, Nat.reduceLT, vval, Bool.false_eq_true, reduceIte, List.cons_append, List.nil_append]

theorem knext_ok (k : List UInt8) (hk : k.length ≤ 1000) : CallT Tryz.prog 41 [.u (.s k)] [] fun r σ => r = .u (.s (k ++ [0])) ∧ σ = [] := by
 refine cof 5 [.tmp 2] Tryz.func41 Tryz.ntmps41 fun c hnt hc0 => ?_
 refine sq fun _ k1 => rgn 0 ?_
 repeat refine ⟨sd, ?_⟩
 refine k1 (sq fun _ k2 => rgn 0 ?_)
 repeat refine ⟨sd, ?_⟩
 refine k2 (wps_ret ?_)
 refine retL [] rfl ⟨trivial, trivial⟩ rfl rfl ?_
 exact mT

/-- where the search for keys from one on begins -/
def fromS (k : List UInt8) : List UInt8 := if 64 < k.length then vkey (k.take 64) 0 ++ [0] else vkey k 18446744073709551615
theorem vfrom_ok (k : List UInt8) (hk : k.length ≤ 1000) : CallT Tryz.prog 64 [.u (.s k)] [] fun r σ => r = .u (.s (fromS k)) ∧ σ = [] := by
 have hd : decide ((64 : Int) < (k.length : Int)) = decide (64 < k.length) := by
  rw [Bool.eq_iff_iff, decide_eq_true_iff, decide_eq_true_iff]; omega
 have hkl : (vkey (k.take 64) 0).length ≤ 1000 := by
  have := esc_len (k.take 64)
  rw [List.length_take] at this
  simp [vkey, keyS, be8_len]; omega
 refine cof 12 [.tmp 2] Tryz.func64 Tryz.ntmps64 fun c hnt hc0 => ?_
 refine sq fun _ k1 => rgn 0 ?_
 repeat refine ⟨sd, ?_⟩
 refine k1 (sq fun _ k2 => sq fun _ k3 => rg 0 ?_)
 refine evx hd ?_
 repeat refine ⟨sd, ?_⟩
 refine k3 (cd rfl (fun h1 => ?_) (fun h1 => ?_))
 ·have hlt : 64 < k.length := by simpa using h1
  have hp := vbytes_ok (k.take 64) 0 (by rw [List.length_take]; omega) (by omega)
  rw [show ((0 : Nat) : Int) = 0 from rfl] at hp
  refine sq fun _ k4 => rgn 0 ?_
  repeat refine ⟨sd, ?_⟩
  refine callT_at [] [] hp rfl rfl trivial mB mB rfl mR mR ?_
  refine evl ?_
  repeat refine ⟨sd, ?_⟩
  refine k4 (wps_ret ?_)
  refine retL [] rfl ⟨trivial, trivial⟩ rfl rfl ?_
  simp only [go_sem, and_true, true_and, implies_true, reduceIte, Nat.reduceEqDiff, Nat.reduceAdd, Nat.reduceLT, fromS]
  rw [if_pos hlt]
 ·have hle : k.length ≤ 64 := by simpa using h1
  have hf := vfirst_ok k hle
  refine wps_skip (k2 (sq fun _ k5 => rgn 0 ?_))
  repeat refine ⟨sd, ?_⟩
  refine callT_at [] [] hf rfl rfl trivial mB mB rfl mR mR ?_
  refine evl ?_
  repeat refine ⟨sd, ?_⟩
  refine k5 (wps_ret ?_)
  refine retL [] rfl ⟨trivial, trivial⟩ rfl rfl ?_
  simp only [go_sem, and_true, true_and, implies_true, reduceIte, Nat.reduceEqDiff, Nat.reduceAdd, Nat.reduceLT, fromS]
  rw [if_neg (by omega)]

theorem vparse_ok (t : Nat) (w : Wr) (hw : WrOK w) (ht : t < 18446744073709551616) : CallT Tryz.prog 56 [.agg [.u (.s (verC t w).1), .u (.s (verC t w).2)]] []
  fun r σ => r = .tup [.u (.s w.1), .agg [.u (.i .u64 (t : Int)), .u (.s w.2.1), .u (.b w.2.2)], .u (.b true)] ∧ σ = [] := by
 obtain ⟨k, v, gn⟩ := w
 obtain ⟨k0, k1, v1, gg⟩ := hw
 simp only at *
 have hkl := esc_len k
 have hks : (keyS k t).length ≤ 138 := by simp [keyS, be8_len]; omega
 have hg := keyget_ok k t none k1 ht
 have ht1 : (((100 : UInt8) :: keyS k t).take 1).drop 0 = [100] := rfl
 have ht2 : (((100 : UInt8) :: keyS k t).take ((keyS k t).length + 1)).drop 1 = keyS k t := by
  rw [List.take_of_length_le (by simp)]; rfl
 have hvl : (vval (k, v, gn)).length ≤ 257 := by
  unfold vval
  split
  ·simp
  ·simp; omega
 have h00 : ((((0 : UInt8).toNat : Nat) : Int) == 0) = true := rfl
 unfold verC vkey
 simp only
 refine cof 61 [.tmp 2, .cell 3 91, .tmp 4] Tryz.func56 Tryz.ntmps56 fun c hnt hc0 => ?_
 refine wps_seq fun K1 hK1 => rgn 2 ?_
 repeat refine ⟨sd, ?_⟩
 refine hK1 _ _ (sq fun _ k2 => sq fun _ k3 => ?_)
 cases gn
 rotate_left
 ·have hv0 := gg rfl
  subst hv0
  simp only [vval, reduceIte]
  refine rg 0 ?_
  refine evx ht1 ?_
  repeat refine ⟨sd, ?_⟩
  refine k3 (cd rfl (fun h1 => ?_) (fun h1 => ?_))
  ·exact absurd h1 (by simp; omega)
  ·refine wps_skip (k2 (sq fun _ k4 => rg 0 ?_))
   simp only [↓kOps_app, ↓evOps_nil, ↓evOps_cons, go_sem, Int.reduceAdd, Int.reduceBEq, Int.reduceEq, Int.reduceLE, Int.reduceLT, Int.reduceNe, Int.reduceSub, Int.reduceToNat, Nat.reduceAdd, Nat.reduceBEq, Nat.reduceEqDiff, Nat.reduceLT, Nat.reduceLeDiff, Nat.reduceMul, Nat.reduceSub, reduceCtorEq, reduceIte, ht2, List.take_length]
   repeat refine ⟨sd, ?_⟩
   refine callT_at [] [] hg rfl rfl trivial mB mB rfl mR mR ?_
   simp only [↓kOps_app, ↓evOps_nil, ↓evOps_cons, go_sem, Int.reduceAdd, Int.reduceBEq, Int.reduceEq, Int.reduceLE, Int.reduceLT, Int.reduceNe, Int.reduceSub, Int.reduceToNat, Nat.reduceAdd, Nat.reduceBEq, Nat.reduceEqDiff, Nat.reduceLT, Nat.reduceLeDiff, Nat.reduceMul, Nat.reduceSub, reduceCtorEq, reduceIte, ht2, List.take_length]
   repeat refine ⟨sd, ?_⟩
   refine k4 (sq fun _ k5 => rgn 1 ?_)
   repeat refine ⟨sd, ?_⟩
   refine k5 (sq fun _ k6 => sq fun _ k7 => rgn 0 ?_)
   repeat refine ⟨sd, ?_⟩
   refine k7 (cd rfl (fun h2 => ?_) (fun h2 => ?_))
   ·exact absurd h2 (by simp)
   ·refine wps_skip (k6 (sq fun _ k8 => dr 0 [0, 0, 0, 4, 12, 28, 60, 124, 252, 508, 1020, 2044, 4092, 8188, 253, 16639, 65535] mixed ?_))
    refine evx h00 ?_
    repeat refine ⟨sd, ?_⟩
    refine k8 (wps_ret ?_)
    refine retL [] mA mO rfl rfl ?_
    exact mT
 ·simp only [vval, Bool.false_eq_true, reduceIte]
  have hv2 : (((0 : UInt8) :: v).take (v.length + 1)).drop 1 = v := by
   rw [List.take_of_length_le (by simp)]; rfl
  have hb1 : (((0 : UInt8) :: v) == [1]) = false := rfl
  refine rg 0 ?_
  refine evx ht1 ?_
  repeat refine ⟨sd, ?_⟩
  refine k3 (cd rfl (fun h1 => ?_) (fun h1 => ?_))
  ·exact absurd h1 (by simp; omega)
  ·refine wps_skip (k2 (sq fun _ k9 => rg 0 ?_))
   simp only [↓kOps_app, ↓evOps_nil, ↓evOps_cons, go_sem, Int.reduceAdd, Int.reduceBEq, Int.reduceEq, Int.reduceLE, Int.reduceLT, Int.reduceNe, Int.reduceSub, Int.reduceToNat, Nat.reduceAdd, Nat.reduceBEq, Nat.reduceEqDiff, Nat.reduceLT, Nat.reduceLeDiff, Nat.reduceMul, Nat.reduceSub, reduceCtorEq, reduceIte, ht2, List.take_length]
   repeat refine ⟨sd, ?_⟩
   refine callT_at [] [] hg rfl rfl trivial mB mB rfl mR mR ?_
   simp only [↓kOps_app, ↓evOps_nil, ↓evOps_cons, go_sem, Int.reduceAdd, Int.reduceBEq, Int.reduceEq, Int.reduceLE, Int.reduceLT, Int.reduceNe, Int.reduceSub, Int.reduceToNat, Nat.reduceAdd, Nat.reduceBEq, Nat.reduceEqDiff, Nat.reduceLT, Nat.reduceLeDiff, Nat.reduceMul, Nat.reduceSub, reduceCtorEq, reduceIte, ht2, List.take_length]
   repeat refine ⟨sd, ?_⟩
   refine k9 (sq fun _ k10 => rg 1 ?_)
   refine evx hb1 ?_
   repeat refine ⟨sd, ?_⟩
   refine k10 (sq fun _ k11 => sq fun _ k12 => rgn 0 ?_)
   repeat refine ⟨sd, ?_⟩
   refine k12 (cd rfl (fun h2 => ?_) (fun h2 => ?_))
   ·refine rg 0 ?_
    simp only [↓kOps_app, ↓evOps_nil, ↓evOps_cons, go_sem, Int.reduceAdd, Int.reduceBEq, Int.reduceEq, Int.reduceLE, Int.reduceLT, Int.reduceNe, Int.reduceSub, Int.reduceToNat, Nat.reduceAdd, Nat.reduceBEq, Nat.reduceEqDiff, Nat.reduceLT, Nat.reduceLeDiff, Nat.reduceMul, Nat.reduceSub, reduceCtorEq, reduceIte, hv2, List.take_length]
    repeat refine ⟨sd, ?_⟩
    refine k11 (sq fun _ k13 => dr 0 [0, 0, 0, 4, 12, 28, 60, 124, 252, 508, 1020, 2044, 4092, 8188, 253, 16639, 65535] mixed ?_)
    refine evx h00 ?_
    repeat refine ⟨sd, ?_⟩
    refine k13 (wps_ret ?_)
    refine retL [] mA mO rfl rfl ?_
    exact mT
   ·exact absurd h2 (by simp)

/-! ### the tree's cells, as a list -/
def Reads (W : PgM) (l : List Cel) : Prop := ∀ key : List UInt8, ∃ (way : List Stp) (s : Stp) (ps : List (List Cel)), Way W key 0 (way ++ [s]) ∧ way.length ≤ 7 ∧ PgOK s.pg ∧ Rst W s.pg.next ps ∧ s.pg.cells.drop (lob key s.pg.cells) ++ ps.flatten = l.drop (lob key l) ∧
 (keyAt key l = true → keyAt key s.pg.cells = true ∧ (s.pg.cells.getD (lob key s.pg.cells) ([], [])).2 = (l.getD (lob key l) ([], [])).2)
theorem trange_ok (W : PgM) (vm gm : List (PV × PV)) (pr : List (List PV)) (l : List Cel) (hR : Reads W l) (frm to : List UInt8) (opn : Bool) (lim : Int) (hl : l.length ≤ 90000) : CallT Tryz.prog 51 [.p 0 0, .agg [.u (.s frm), .u (.s to), .u (.b opn), .u (.b false), .u (.i .i64 lim)]] (tre W vm gm pr)
  fun r σ => r = .u (.fz ((takeL opn to lim [] (l.drop (lob frm l))).map crow) none) ∧ σ = tre W vm gm pr := by
 obtain ⟨way, s, ps, h1, h2, h3, h4, h5, _⟩ := hR frm
 refine trange0_ok W vm gm pr way s frm to opn lim ps _ h1 h2 h3 h4 (by rw [h5]) ?_
 have : ∀ (l acc : List Cel), (takeL opn to lim acc l).length ≤ acc.length + l.length := by
  intro l
  induction l with
  | nil => intro acc; simp [takeL]
  | cons c r ih =>
   intro acc
   rw [takeL]
   split
   ·simp
   ·have := ih (acc ++ [c]); simp at this ⊢; omega
 have h6 := this (l.drop (lob frm l)) []
 simp at h6; omega
def hd1 (to : List UInt8) : List Cel → List Cel
 | [] => []
 | c :: _ => if Op.bytesLess c.1 to then [c] else []
theorem take_hd1 (to : List UInt8) (L : List Cel) : takeL false to 1 [] L = hd1 to L := by
 cases L with
 | nil => rfl
 | cons c r =>
  rw [takeL, hd1, stopB]
  cases h : Op.bytesLess c.1 to
  ·simp
  ·simp
   cases r with
   | nil => rfl
   | cons d r => rw [takeL, stopB]; simp

def vwm (W : PgM) (L S : PV) (last synced : Nat) (v g : Sec) (P : List Pend) (vl : Nat) : List SObj := [.cells [.p 1 0, .u (.i .u64 (vl : Int)), .u (.i .u64 0)], .cells [.p 2 0, .p 3 0, .p 12 0], .cells [.p 3 0], .cells [.p 8 0, .p 7 0, .u (.i .i64 0), .u (.i .i64 200), .u (.i .u64 0), .h 4, .h 5, .h 6], .map [], .map ((enc W).map sent), .map [], .cells [.p 8 0, .u (.i .i64 0), .u (.i .u64 0), .u (.i .i64 1)], .cells [.u (.i .i64 1000), .u (.i .i64 1000), .h 9, .h 10, .h 11], .map (v.map sent), .map (g.map sent), .row 116 1 (P.map prow), .cells [.p 8 0, .u (.i .i64 802), .u (.i .i64 8), .u (.i .i64 16), .u L, .u S, .u (.i .u64 (last : Int)), .u (.i .u64 (synced : Int))]]
def AhIs (l : List Cel) (key : List UInt8) (r : List UInt8 × Bool) : Prop := (hd1 [109] (l.drop (lob (fromS key) l)) = [] ∧ r = ([], false)) ∨ ∃ t w, hd1 [109] (l.drop (lob (fromS key) l)) = [verC t w] ∧ WrOK w ∧ t < 18446744073709551616 ∧ r = (w.1, true)
def RdIs (l : List Cel) (key : List UInt8) (at_ : Nat) (r : List UInt8 × Bool) : Prop := (hd1 (vkey key 0 ++ [0]) (l.drop (lob (vkey key at_) l)) = [] ∧ r = ([], false)) ∨ ∃ t w, hd1 (vkey key 0 ++ [0]) (l.drop (lob (vkey key at_) l)) = [verC t w] ∧ WrOK w ∧ t < 18446744073709551616 ∧ r = (w.2.1, !w.2.2)

theorem ahead_ok (W : PgM) (l : List Cel) (L S : PV) (last synced : Nat) (v g : Sec) (P : List Pend) (vl : Nat) (key : List UInt8) (r0 : List UInt8 × Bool) (hR : Reads W l) (hl : l.length ≤ 90000) (hk : key.length ≤ 1000) (hA : AhIs l key r0) : CallT Tryz.prog 38 [.p 0 0, .u (.s key)] (vwm W L S last synced v g P vl)
  fun r σ => r = .tup [.u (.s r0.1), .u (.b r0.2)] ∧ σ = vwm W L S last synced v g P vl := by
 have hf := vfrom_ok key hk
 have hr := trange_ok W (v.map sent) (g.map sent) (P.map prow) l hR (fromS key) [109] false 1 hl
 rw [take_hd1] at hr
 unfold vwm
 unfold tre dskC at hr
 refine cof 34 [.tmp 4, .tmp 5] Tryz.func38 Tryz.ntmps38 fun c hnt hc0 => ?_
 refine sq fun _ k1 => rgn 0 ?_
 repeat refine ⟨sd, ?_⟩
 refine k1 (sq fun _ k2 => ?_)
 rcases hA with ⟨hA1, hA2⟩ | ⟨t, w, hA1, hw, ht, hA2⟩
 ·rw [hA1] at hr
  subst hA2
  simp only [List.map_nil] at hr
  refine dr 0 [0, 1, 3, 7, 15, 31, 63, 0, 128, 384, 1023, 2047] mixed ?_
  refine evl ?_
  repeat refine ⟨sd, ?_⟩
  refine callE_at [] [] hf rfl rfl trivial mB mB rfl mR mR ?_
  refine evl ?_
  repeat refine ⟨sd, ?_⟩
  refine callE_at [2, 3, 4, 5, 6, 7, 8, 9, 10, 11] [_, _, _, _, _, _, _, _, _, _] hr rfl rfl ⟨rfl, rfl, rfl, rfl, rfl, rfl, rfl, rfl, rfl, rfl, trivial⟩ mB mB rfl mR mR ?_
  refine evl ?_
  repeat refine ⟨sd, ?_⟩
  refine k2 (sq fun _ k3 => sq fun _ k4 => rgn 0 ?_)
  repeat refine ⟨sd, ?_⟩
  refine k4 (cd rfl (fun h1 => ?_) (fun h1 => ?_))
  ·refine sq fun _ k5 => rgn 0 ?_
   repeat refine ⟨sd, ?_⟩
   refine k5 (wps_ret ?_)
   refine retL [some 0, some 1, some 2, some 3, some 4, some 5, some 6, some 7, some 8, some 9, some 10, some 11, some 12] mA mO rfl rfl ?_
   exact mT
  ·exact absurd h1 (by simp)
 ·rw [hA1] at hr
  subst hA2
  have hp := vparse_ok t w hw ht
  simp only [List.map_cons, List.map_nil, crow] at hr
  refine dr 0 [0, 1, 3, 7, 15, 31, 63, 0, 128, 384, 1023, 2047] mixed ?_
  refine evl ?_
  repeat refine ⟨sd, ?_⟩
  refine callE_at [] [] hf rfl rfl trivial mB mB rfl mR mR ?_
  refine evl ?_
  repeat refine ⟨sd, ?_⟩
  refine callE_at [2, 3, 4, 5, 6, 7, 8, 9, 10, 11] [_, _, _, _, _, _, _, _, _, _] hr rfl rfl ⟨rfl, rfl, rfl, rfl, rfl, rfl, rfl, rfl, rfl, rfl, trivial⟩ mB mB rfl mR mR ?_
  refine evl ?_
  repeat refine ⟨sd, ?_⟩
  refine k2 (sq fun _ k6 => sq fun _ k7 => rgn 0 ?_)
  repeat refine ⟨sd, ?_⟩
  refine k7 (cd rfl (fun h1 => ?_) (fun h1 => ?_))
  ·exact absurd h1 (by simp)
  ·refine wps_skip (k6 (sq fun _ k8 => rgn 1 ?_))
   repeat refine ⟨sd, ?_⟩
   refine callT_at [] [] hp rfl rfl trivial mB mB rfl mR mR ?_
   refine evl ?_
   repeat refine ⟨sd, ?_⟩
   refine k8 (sq fun _ k9 => rgn 0 ?_)
   repeat refine ⟨sd, ?_⟩
   refine k9 (wps_ret ?_)
   refine retL [some 0, some 1, some 2, some 3, some 4, some 5, some 6, some 7, some 8, some 9, some 10, some 11, some 12] mA mO rfl rfl ?_
   exact mT

theorem vread_ok (W : PgM) (l : List Cel) (L S : PV) (last synced : Nat) (v g : Sec) (P : List Pend) (vl : Nat) (key : List UInt8) (at_ : Nat) (r0 : List UInt8 × Bool) (hR : Reads W l) (hl : l.length ≤ 90000) (hk : key.length ≤ 64) (hat : at_ < 18446744073709551616) (hA : RdIs l key at_ r0) : CallT Tryz.prog 32 [.p 0 0, .u (.s key), .u (.i .u64 (at_ : Int))] (vwm W L S last synced v g P vl)
  fun r σ => r = .tup [.u (.s r0.1), .u (.b r0.2)] ∧ σ = vwm W L S last synced v g P vl := by
 have hd : decide ((64 : Int) < (key.length : Int)) = false := decide_eq_false (by omega)
 have hb1 := vbytes_ok key at_ hk hat
 have hb2 := vbytes_ok key 0 hk (by omega)
 rw [show ((0 : Nat) : Int) = 0 from rfl] at hb2
 have hkl := esc_len key
 have hkv : (vkey key 0).length ≤ 1000 := by simp [vkey, keyS, be8_len]; omega
 have hr := trange_ok W (v.map sent) (g.map sent) (P.map prow) l hR (vkey key at_) (vkey key 0 ++ [0]) false 1 hl
 rw [take_hd1] at hr
 unfold vwm
 unfold tre dskC at hr
 refine cof 49 [.tmp 6, .tmp 7] Tryz.func32 Tryz.ntmps32 fun c hnt hc0 => ?_
 refine sq fun _ k1 => rgn 0 ?_
 repeat refine ⟨sd, ?_⟩
 refine k1 (sq fun _ k2 => sq fun _ k3 => rg 0 ?_)
 refine evx hd ?_
 repeat refine ⟨sd, ?_⟩
 refine k3 (cd rfl (fun h1 => ?_) (fun h1 => ?_))
 ·exact absurd h1 (by simp)
 ·refine wps_skip (k2 (sq fun _ k4 => ?_))
  rcases hA with ⟨hA1, hA2⟩ | ⟨t, w, hA1, hw, ht, hA2⟩
  ·rw [hA1] at hr
   subst hA2
   simp only [List.map_nil] at hr
   refine dr 0 [0, 1, 3, 7, 15, 31, 63, 0, 0, 384, 0, 1920, 3968, 8064, 16383, 32767] mixed ?_
   refine evl ?_
   repeat refine ⟨sd, ?_⟩
   refine callE_at [] [] hb1 rfl rfl trivial mB mB rfl mR mR ?_
   refine evl ?_
   repeat refine ⟨sd, ?_⟩
   refine callE_at [] [] hb2 rfl rfl trivial mB mB rfl mR mR ?_
   refine evl ?_
   repeat refine ⟨sd, ?_⟩
   refine callE_at [2, 3, 4, 5, 6, 7, 8, 9, 10, 11] [_, _, _, _, _, _, _, _, _, _] hr rfl rfl ⟨rfl, rfl, rfl, rfl, rfl, rfl, rfl, rfl, rfl, rfl, trivial⟩ mB mB rfl mR mR ?_
   refine evl ?_
   repeat refine ⟨sd, ?_⟩
   refine k4 (sq fun _ k5 => sq fun _ k6 => rgn 0 ?_)
   repeat refine ⟨sd, ?_⟩
   refine k6 (cd rfl (fun h2 => ?_) (fun h2 => ?_))
   ·refine sq fun _ k7 => rgn 0 ?_
    repeat refine ⟨sd, ?_⟩
    refine k7 (wps_ret ?_)
    refine retL [some 0, some 1, some 2, some 3, some 4, some 5, some 6, some 7, some 8, some 9, some 10, some 11, some 12] mA mO rfl rfl ?_
    exact mT
   ·exact absurd h2 (by simp)
  ·rw [hA1] at hr
   subst hA2
   have hp := vparse_ok t w hw ht
   simp only [List.map_cons, List.map_nil, crow] at hr
   refine dr 0 [0, 1, 3, 7, 15, 31, 63, 0, 0, 384, 0, 1920, 3968, 8064, 16383, 32767] mixed ?_
   refine evl ?_
   repeat refine ⟨sd, ?_⟩
   refine callE_at [] [] hb1 rfl rfl trivial mB mB rfl mR mR ?_
   refine evl ?_
   repeat refine ⟨sd, ?_⟩
   refine callE_at [] [] hb2 rfl rfl trivial mB mB rfl mR mR ?_
   refine evl ?_
   repeat refine ⟨sd, ?_⟩
   refine callE_at [2, 3, 4, 5, 6, 7, 8, 9, 10, 11] [_, _, _, _, _, _, _, _, _, _] hr rfl rfl ⟨rfl, rfl, rfl, rfl, rfl, rfl, rfl, rfl, rfl, rfl, trivial⟩ mB mB rfl mR mR ?_
   refine evl ?_
   repeat refine ⟨sd, ?_⟩
   refine k4 (sq fun _ k8 => sq fun _ k9 => rgn 0 ?_)
   repeat refine ⟨sd, ?_⟩
   refine k9 (cd rfl (fun h2 => ?_) (fun h2 => ?_))
   ·exact absurd h2 (by simp)
   ·refine wps_skip (k8 (sq fun _ k10 => rgn 1 ?_))
    repeat refine ⟨sd, ?_⟩
    refine callT_at [] [] hp rfl rfl trivial mB mB rfl mR mR ?_
    refine evl ?_
    repeat refine ⟨sd, ?_⟩
    refine k10 (sq fun _ k11 => dr 0 [0, 1, 0, 4, 12, 28, 60, 124, 15, 511] mixed ?_)
    refine evl ?_
    repeat refine ⟨sd, ?_⟩
    refine k11 (wps_ret ?_)
    refine retL [some 0, some 1, some 2, some 3, some 4, some 5, some 6, some 7, some 8, some 9, some 10, some 11, some 12] mA mO rfl rfl ?_
    exact mT

theorem vmay_ok (W : PgM) (L S : PV) (last synced : Nat) (v g : Sec) (P : List Pend) (vl at_ : Nat) (h : at_ ≤ vl) : CallT Tryz.prog 31 [.p 0 0, .u (.i .u64 (at_ : Int))] (vwm W L S last synced v g P vl)
  fun r σ => r = .u (.i .i64 0) ∧ σ = vwm W L S last synced v g P vl := by
 have hd1 : decide ((vl : Int) < (at_ : Int)) = false := decide_eq_false (by omega)
 have hd2 : decide ((at_ : Int) < 0) = false := decide_eq_false (by omega)
 unfold vwm
 refine cof 19 [.tmp 4] Tryz.func31 Tryz.ntmps31 fun c hnt hc0 => ?_
 refine sq fun _ k1 => rgn 0 ?_
 repeat refine ⟨sd, ?_⟩
 refine k1 (sq fun _ k2 => bk fun _ k3 => sq fun _ k4 => rg 0 ?_)
 refine evx hd1 ?_
 repeat refine ⟨sd, ?_⟩
 refine k4 (cd rfl (fun h1 => ?_) (fun h1 => ?_))
 ·exact absurd h1 (by simp)
 ·refine sq fun _ k5 => rg 0 ?_
  refine evx hd2 ?_
  repeat refine ⟨sd, ?_⟩
  refine k5 (cd rfl (fun h2 => ?_) (fun h2 => ?_))
  ·exact absurd h2 (by simp)
  ·refine wps_skip (k3 (k2 (sq fun _ k6 => rgn 0 ?_)))
   repeat refine ⟨sd, ?_⟩
   refine k6 (wps_ret ?_)
   refine retL [some 0, some 1, some 2, some 3, some 4, some 5, some 6, some 7, some 8, some 9, some 10, some 11, some 12] rfl ⟨trivial, trivial⟩ rfl rfl ?_
   exact mT

theorem vlast_ok (W : PgM) (L S : PV) (last synced : Nat) (v g : Sec) (P : List Pend) (vl : Nat) : CallT Tryz.prog 12 [.p 0 0] (vwm W L S last synced v g P vl)
  fun r σ => r = .u (.i .u64 (vl : Int)) ∧ σ = vwm W L S last synced v g P vl := by
 unfold vwm
 refine cof 7 [.tmp 2] Tryz.func12 Tryz.ntmps12 fun c hnt hc0 => ?_
 refine sq fun _ k1 => rgn 0 ?_
 repeat refine ⟨sd, ?_⟩
 refine k1 (sq fun _ k2 => rgn 0 ?_)
 repeat refine ⟨sd, ?_⟩
 refine k2 (wps_ret ?_)
 refine retL [some 0, some 1, some 2, some 3, some 4, some 5, some 6, some 7, some 8, some 9, some 10, some 11, some 12] rfl ⟨trivial, trivial⟩ rfl rfl ?_
 exact mT

theorem vget_ok (W : PgM) (l : List Cel) (L S : PV) (last synced : Nat) (v g : Sec) (P : List Pend) (vl : Nat) (key : List UInt8) (at_ : Nat) (r0 : List UInt8 × Bool) (hR : Reads W l) (hl : l.length ≤ 90000) (hk : key.length ≤ 64) (hvl : vl < 18446744073709551616) (hat : at_ ≤ vl) (hA : RdIs l key at_ r0) : CallT Tryz.prog 11 [.p 0 0, .u (.s key), .u (.i .u64 (at_ : Int))] (vwm W L S last synced v g P vl)
  fun r σ => r = .tup [.u (.s (if r0.2 then r0.1 else [])), .u (.i .i64 (if r0.2 then 0 else 161))] ∧ σ = vwm W L S last synced v g P vl := by
 have hm := vmay_ok W L S last synced v g P vl at_ hat
 have hr := vread_ok W l L S last synced v g P vl key at_ r0 hR hl hk (by omega) hA
 obtain ⟨s0, b0⟩ := r0
 simp only at *
 unfold vwm at *
 refine cof 27 [.tmp 6, .tmp 7] Tryz.func11 Tryz.ntmps11 fun c hnt hc0 => ?_
 refine sq fun _ k1 => rgn 0 ?_
 repeat refine ⟨sd, ?_⟩
 refine k1 (sq fun _ k2 => sq fun _ k3 => rgn 0 ?_)
 repeat refine ⟨sd, ?_⟩
 refine callT_at [0, 1, 2, 3, 4, 5, 6, 7, 8, 9, 10, 11, 12] [_, _, _, _, _, _, _, _, _, _, _, _, _] hm rfl rfl ⟨rfl, rfl, rfl, rfl, rfl, rfl, rfl, rfl, rfl, rfl, rfl, rfl, rfl, trivial⟩ mB mB rfl mR mR ?_
 refine evl ?_
 repeat refine ⟨sd, ?_⟩
 refine k3 (sq fun _ k4 => rgn 0 ?_)
 repeat refine ⟨sd, ?_⟩
 refine k4 (cd rfl (fun h1 => ?_) (fun h1 => ?_))
 ·exact absurd h1 (by simp)
 ·refine wps_skip (k2 (sq fun _ k5 => rgn 0 ?_))
  repeat refine ⟨sd, ?_⟩
  refine callT_at [0, 1, 2, 3, 4, 5, 6, 7, 8, 9, 10, 11, 12] [_, _, _, _, _, _, _, _, _, _, _, _, _] hr rfl rfl ⟨rfl, rfl, rfl, rfl, rfl, rfl, rfl, rfl, rfl, rfl, rfl, rfl, rfl, trivial⟩ mB mB rfl mR mR ?_
  refine evl ?_
  repeat refine ⟨sd, ?_⟩
  refine k5 (sq fun _ k6 => sq fun _ k7 => rgn 0 ?_)
  repeat refine ⟨sd, ?_⟩
  refine k7 (cd rfl (fun h2 => ?_) (fun h2 => ?_))
  ·have hb : b0 = false := by simpa using h2
   subst hb
   refine sq fun _ k8 => rgn 0 ?_
   repeat refine ⟨sd, ?_⟩
   refine k8 (wps_ret ?_)
   refine retL [some 0, some 1, some 2, some 3, some 4, some 5, some 6, some 7, some 8, some 9, some 10, some 11, some 12] mA mO rfl rfl ?_
   simp only [go_sem, and_true, true_and, implies_true, reduceIte, Nat.reduceEqDiff, Nat.reduceAdd, Nat.reduceLT, Bool.false_eq_true, reduceIte]
  ·have hb : b0 = true := by simpa using h2
   subst hb
   refine wps_skip (k6 (sq fun _ k9 => rgn 0 ?_))
   repeat refine ⟨sd, ?_⟩
   refine k9 (wps_ret ?_)
   refine retL [some 0, some 1, some 2, some 3, some 4, some 5, some 6, some 7, some 8, some 9, some 10, some 11, some 12] mA mO rfl rfl ?_
   simp only [go_sem, and_true, true_and, implies_true, reduceIte, Nat.reduceEqDiff, Nat.reduceAdd, Nat.reduceLT, Bool.false_eq_true, reduceIte]

/-- the keys that have versions, one behind the other, with their values -/
inductive Sn (l : List Cel) (at_ : Nat) : Nat → List UInt8 × Bool → List Cel → Prop
 | stop (k : List UInt8) : Sn l at_ 0 (k, false) []
 | step {n : Nat} {k : List UInt8} {r nx : List UInt8 × Bool} {out : List Cel} (h0 : k.length ≤ 64) (h1 : RdIs l k at_ r) (h2 : AhIs l (k ++ [0]) nx) (h3 : Sn l at_ n nx out) : Sn l at_ (n + 1) (k, true) ((if r.2 then [(k, r.1)] else []) ++ out)

theorem vscan_ok (W : PgM) (l : List Cel) (L S : PV) (last synced : Nat) (v g : Sec) (P : List Pend) (vl at_ n : Nat) (fst : List UInt8 × Bool) (OUT : List Cel) (hR : Reads W l) (hl : l.length ≤ 90000) (hvl : vl < 18446744073709551616) (hat : at_ ≤ vl) (hA : AhIs l [] fst) (hS : Sn l at_ n fst OUT) (hO : OUT.length ≤ 90000) :
  CallT Tryz.prog 15 [.p 0 0, .agg [.u (.s []), .u (.s []), .u (.b true), .u (.b false), .u (.i .i64 (-1))], .u (.i .u64 (at_ : Int))] (vwm W L S last synced v g P vl)
  fun r σ => r = .tup [.u (.fz (OUT.map crow) none), .u (.i .i64 0)] ∧ σ = vwm W L S last synced v g P vl := by
 have hm := vmay_ok W L S last synced v g P vl at_ hat
 have hah := fun key r0 hk h => ahead_ok W l L S last synced v g P vl key r0 hR hl hk h
 have hrd := fun key r0 hk h => vread_ok W l L S last synced v g P vl key at_ r0 hR hl hk (by omega) h
 have hf := hah [] fst (by simp) hA
 unfold vwm at *
 refine cof 108 [.tmp 6, .tmp 7] Tryz.func15 Tryz.ntmps15 fun c hnt hc0 => ?_
 refine sq fun _ k1 => rgn 1 ?_
 repeat refine ⟨sd, ?_⟩
 refine k1 (sq fun _ k2 => sq fun _ k3 => rgn 0 ?_)
 repeat refine ⟨sd, ?_⟩
 refine callT_at [0, 1, 2, 3, 4, 5, 6, 7, 8, 9, 10, 11, 12] [_, _, _, _, _, _, _, _, _, _, _, _, _] hm rfl rfl ⟨rfl, rfl, rfl, rfl, rfl, rfl, rfl, rfl, rfl, rfl, rfl, rfl, rfl, trivial⟩ mB mB rfl mR mR ?_
 refine evl ?_
 repeat refine ⟨sd, ?_⟩
 refine k3 (sq fun _ k4 => rgn 0 ?_)
 repeat refine ⟨sd, ?_⟩
 refine k4 (cd rfl (fun h1 => ?_) (fun h1 => ?_))
 ·exact absurd h1 (by simp)
 ·refine wps_skip (k2 (sq fun _ k5 => rgn 0 ?_))
  repeat refine ⟨sd, ?_⟩
  refine k5 (sq fun _ k6 => bk fun _ k7 => sq fun _ k8 => rgn 0 ?_)
  repeat refine ⟨sd, ?_⟩
  refine k8 (cd rfl (fun h2 => ?_) (fun h2 => ?_))
  ·refine wps_keep [0, 2, 4, 9] mK ?_
   refine rgn 0 ?_
   repeat refine ⟨sd, ?_⟩
   refine callT_at [0, 1, 2, 3, 4, 5, 6, 7, 8, 9, 10, 11, 12] [_, _, _, _, _, _, _, _, _, _, _, _, _] hf rfl rfl ⟨rfl, rfl, rfl, rfl, rfl, rfl, rfl, rfl, rfl, rfl, rfl, rfl, rfl, trivial⟩ mB mB rfl mR mR ?_
   refine evl ?_
   repeat refine ⟨sd, ?_⟩
   refine k7 (k6 (sq fun _ k9 => rgn 0 ?_))
   repeat refine ⟨sd, ?_⟩
   refine k9 (sq fun _ k10 => bk fun _ k11 => ?_)
   refine wps_loop (fun m e σ => ∃ (m' : Nat) (k : List UInt8) (ok : Bool) (acc out : List Cel), m = m' ∧ Sn l at_ m' (k, ok) out ∧ acc ++ out = OUT ∧ e = [(0, .p 0 0), (2, .u (.i .u64 (at_ : Int))), (4, .p 13 0), (9, .u (.fn 38 [])), (10, .u (.s k)), (11, .u (.b ok)), (12, .h 14)] ∧ σ = [.cells [.p 1 0, .u (.i .u64 (vl : Int)), .u (.i .u64 0)], .cells [.p 2 0, .p 3 0, .p 12 0], .cells [.p 3 0], .cells [.p 8 0, .p 7 0, .u (.i .i64 0), .u (.i .i64 200), .u (.i .u64 0), .h 4, .h 5, .h 6], .map [], .map ((enc W).map sent), .map [], .cells [.p 8 0, .u (.i .i64 0), .u (.i .u64 0), .u (.i .i64 1)], .cells [.u (.i .i64 1000), .u (.i .i64 1000), .h 9, .h 10, .h 11], .map (v.map sent), .map (g.map sent), .row 116 1 (P.map prow), .cells [.p 8 0, .u (.i .i64 802), .u (.i .i64 8), .u (.i .i64 16), .u L, .u S, .u (.i .u64 (last : Int)), .u (.i .u64 (synced : Int))], .cells [.u (.s []), .u (.s []), .u (.b true), .u (.b false), .u (.i .i64 (-1))], .row 100 2 (acc.map crow)])
    (e0 := [(0, .p 0 0), (2, .u (.i .u64 (at_ : Int))), (4, .p 13 0), (9, .u (.fn 38 [])), (10, .u (.s fst.1)), (11, .u (.b fst.2)), (12, .h 14)]) (σ0 := [.cells [.p 1 0, .u (.i .u64 (vl : Int)), .u (.i .u64 0)], .cells [.p 2 0, .p 3 0, .p 12 0], .cells [.p 3 0], .cells [.p 8 0, .p 7 0, .u (.i .i64 0), .u (.i .i64 200), .u (.i .u64 0), .h 4, .h 5, .h 6], .map [], .map ((enc W).map sent), .map [], .cells [.p 8 0, .u (.i .i64 0), .u (.i .u64 0), .u (.i .i64 1)], .cells [.u (.i .i64 1000), .u (.i .i64 1000), .h 9, .h 10, .h 11], .map (v.map sent), .map (g.map sent), .row 116 1 (P.map prow), .cells [.p 8 0, .u (.i .i64 802), .u (.i .i64 8), .u (.i .i64 16), .u L, .u S, .u (.i .u64 (last : Int)), .u (.i .u64 (synced : Int))], .cells [.u (.s []), .u (.s []), .u (.b true), .u (.b false), .u (.i .i64 (-1))], .row 100 2 []]) ((ent_thaw 100 2 (t := 12) rfl).trans (entL hc0 [some 0, some 1, some 2, some 3, some 4, some 5, some 6, some 7, some 8, some 9, some 10, some 11, some 12, some 13, some 14] rfl rfl mB mB)) ⟨n, fst.1, fst.2, [], OUT, rfl, hS, rfl, rfl, rfl⟩ fun KL m e1 σ1 hI hKL => ?_
   obtain ⟨m', k, ok, acc, out, rfl, hS, hacc, rfl, rfl⟩ := hI
   have hal : acc.length ≤ 90000 := by
    have := congrArg List.length hacc
    rw [List.length_append] at this; omega
   have hb0 : Op.bytesLess k [] = false := by cases k <;> rfl
   have hr1 := crow_ok1 acc
   have hr2 := crow_ok2 acc
   refine sq fun _ k12 => sq fun _ k13 => ?_
   rcases hS with _ | @⟨n', _, r, nx, out, g0, g1, g2, g3⟩
   ·skip
    refine rg 0 ?_
    refine evx hb0 ?_
    repeat refine ⟨sd, ?_⟩
    refine k13 (cd rfl (fun h4 => ?_) (fun h4 => ?_))
    ·exact absurd h4 (by simp)
    ·refine wps_exit ?_
     simp only [reduceIte, Nat.reduceEqDiff]
     refine k11 (k10 (sq fun _ k14 => ?_))
     refine wps_keep [12] mK ?_
     refine rgn 0 ?_
     repeat refine ⟨sd, ?_⟩
     refine k14 ?_
     rw [List.append_nil] at hacc
     subst hacc
     refine wps_ent (e' := [(6, .u (.fz (acc.map crow) none)), (7, .u (.i .i64 0))]) (σ' := [.cells [.p 1 0, .u (.i .u64 (vl : Int)), .u (.i .u64 0)], .cells [.p 2 0, .p 3 0, .p 12 0], .cells [.p 3 0], .cells [.p 8 0, .p 7 0, .u (.i .i64 0), .u (.i .i64 200), .u (.i .u64 0), .h 4, .h 5, .h 6], .map [], .map ((enc W).map sent), .map [], .cells [.p 8 0, .u (.i .i64 0), .u (.i .u64 0), .u (.i .i64 1)], .cells [.u (.i .i64 1000), .u (.i .i64 1000), .h 9, .h 10, .h 11], .map (v.map sent), .map (g.map sent), .row 116 1 (P.map prow), .cells [.p 8 0, .u (.i .i64 802), .u (.i .i64 8), .u (.i .i64 16), .u L, .u S, .u (.i .u64 (last : Int)), .u (.i .u64 (synced : Int))]]) ((entF 14 rfl (e' := [(6, .u (.fz (acc.map crow) none)), (7, .u (.i .i64 0))]) mB rfl).trans (entL hc0 [some 0, some 1, some 2, some 3, some 4, some 5, some 6, some 7, some 8, some 9, some 10, some 11, some 12] rfl rfl mB mB)) ?_
     refine wps_ret ?_
     refine retL [some 0, some 1, some 2, some 3, some 4, some 5, some 6, some 7, some 8, some 9, some 10, some 11, some 12] mA mO rfl rfl ?_
     exact mT
   ·have hr := hrd k r g0 g1
    have hn := knext_ok k (by omega)
    have ha := hah (k ++ [0]) nx (by simp; omega) g2
    refine rg 0 ?_
    refine evx hb0 ?_
    repeat refine ⟨sd, ?_⟩
    refine k13 (cd rfl (fun h4 => ?_) (fun h4 => ?_))
    ·refine wps_skip (k12 (bk fun _ k15 => sq fun _ k16 => sq fun _ k17 => ?_))
     refine wps_keep [0, 2, 4, 9, 10, 12] mK ?_
     refine rgn 0 ?_
     repeat refine ⟨sd, ?_⟩
     refine callT_at [0, 1, 2, 3, 4, 5, 6, 7, 8, 9, 10, 11, 12] [_, _, _, _, _, _, _, _, _, _, _, _, _] hr rfl rfl ⟨rfl, rfl, rfl, rfl, rfl, rfl, rfl, rfl, rfl, rfl, rfl, rfl, rfl, trivial⟩ mB mB rfl mR mR ?_
     refine evl ?_
     repeat refine ⟨sd, ?_⟩
     refine k17 (sq fun _ k18 => ?_)
     refine wps_keep [0, 2, 4, 9, 10, 12, 13, 14] mK ?_
     refine rgn 0 ?_
     repeat refine ⟨sd, ?_⟩
     refine k18 (cd rfl (fun h5 => ?_) (fun h5 => ?_))
     ·rw [if_pos h5] at hacc
      refine rgn 1 ?_
      repeat refine ⟨sd, ?_⟩
      refine k16 (sq fun _ k19 => ?_)
      refine wps_keep [0, 2, 4, 9, 10, 12] mK ?_
      refine rgn 0 ?_
      repeat refine ⟨sd, ?_⟩
      refine k19 (cd rfl (fun h6 => ?_) (fun h6 => ?_))
      ·exact absurd h6 (by simp)
      ·refine rgn 0 ?_
       repeat refine ⟨sd, ?_⟩
       refine callT_at [] [] hn rfl rfl trivial mB mB rfl mR mR ?_
       refine evl ?_
       repeat refine ⟨sd, ?_⟩
       refine callT_at [0, 1, 2, 3, 4, 5, 6, 7, 8, 9, 10, 11, 12] [_, _, _, _, _, _, _, _, _, _, _, _, _] ha rfl rfl ⟨rfl, rfl, rfl, rfl, rfl, rfl, rfl, rfl, rfl, rfl, rfl, rfl, rfl, trivial⟩ mB mB rfl mR mR ?_
       refine evl ?_
       repeat refine ⟨sd, ?_⟩
       refine k15 ?_
       exact hKL _ _ n' _ [.cells [.p 1 0, .u (.i .u64 (vl : Int)), .u (.i .u64 0)], .cells [.p 2 0, .p 3 0, .p 12 0], .cells [.p 3 0], .cells [.p 8 0, .p 7 0, .u (.i .i64 0), .u (.i .i64 200), .u (.i .u64 0), .h 4, .h 5, .h 6], .map [], .map ((enc W).map sent), .map [], .cells [.p 8 0, .u (.i .i64 0), .u (.i .u64 0), .u (.i .i64 1)], .cells [.u (.i .i64 1000), .u (.i .i64 1000), .h 9, .h 10, .h 11], .map (v.map sent), .map (g.map sent), .row 116 1 (P.map prow), .cells [.p 8 0, .u (.i .i64 802), .u (.i .i64 8), .u (.i .i64 16), .u L, .u S, .u (.i .u64 (last : Int)), .u (.i .u64 (synced : Int))], .cells [.u (.s []), .u (.s []), .u (.b true), .u (.b false), .u (.i .i64 (-1))], .row 100 2 ((acc ++ [(k, r.1)]).map crow)] (entL hc0 [some 0, some 1, some 2, some 3, some 4, some 5, some 6, some 7, some 8, some 9, some 10, some 11, some 12, some 13, some 15] rfl rfl mB (by rw [List.map_append]; simp only [go_sem, reduceIte, Nat.reduceEqDiff, Nat.reduceAdd, Nat.reduceLT, List.map_cons, List.map_nil, crow])) ⟨n', nx.1, nx.2, acc ++ [(k, r.1)], out, rfl, g3, by rw [← hacc]; simp, rfl, rfl⟩ (by omega)
     ·rw [if_neg (by rw [h5]; simp), List.nil_append] at hacc
      refine wps_skip (k16 (sq fun _ k20 => rgn 0 ?_))
      repeat refine ⟨sd, ?_⟩
      refine k20 (cd rfl (fun h6 => ?_) (fun h6 => ?_))
      ·exact absurd h6 (by simp)
      ·refine rgn 0 ?_
       repeat refine ⟨sd, ?_⟩
       refine callT_at [] [] hn rfl rfl trivial mB mB rfl mR mR ?_
       refine evl ?_
       repeat refine ⟨sd, ?_⟩
       refine callT_at [0, 1, 2, 3, 4, 5, 6, 7, 8, 9, 10, 11, 12] [_, _, _, _, _, _, _, _, _, _, _, _, _] ha rfl rfl ⟨rfl, rfl, rfl, rfl, rfl, rfl, rfl, rfl, rfl, rfl, rfl, rfl, rfl, trivial⟩ mB mB rfl mR mR ?_
       refine evl ?_
       repeat refine ⟨sd, ?_⟩
       refine k15 ?_
       exact hKL _ _ n' _ [.cells [.p 1 0, .u (.i .u64 (vl : Int)), .u (.i .u64 0)], .cells [.p 2 0, .p 3 0, .p 12 0], .cells [.p 3 0], .cells [.p 8 0, .p 7 0, .u (.i .i64 0), .u (.i .i64 200), .u (.i .u64 0), .h 4, .h 5, .h 6], .map [], .map ((enc W).map sent), .map [], .cells [.p 8 0, .u (.i .i64 0), .u (.i .u64 0), .u (.i .i64 1)], .cells [.u (.i .i64 1000), .u (.i .i64 1000), .h 9, .h 10, .h 11], .map (v.map sent), .map (g.map sent), .row 116 1 (P.map prow), .cells [.p 8 0, .u (.i .i64 802), .u (.i .i64 8), .u (.i .i64 16), .u L, .u S, .u (.i .u64 (last : Int)), .u (.i .u64 (synced : Int))], .cells [.u (.s []), .u (.s []), .u (.b true), .u (.b false), .u (.i .i64 (-1))], .row 100 2 (acc.map crow)] (entL hc0 [some 0, some 1, some 2, some 3, some 4, some 5, some 6, some 7, some 8, some 9, some 10, some 11, some 12, some 13, some 14] rfl rfl mB mB) ⟨n', nx.1, nx.2, acc, out, rfl, g3, hacc, rfl, rfl⟩ (by omega)
    ·exact absurd h4 (by simp)
  ·exact absurd h2 (by simp)
end Go.Proofs.YtefipnajpabfgaaGreatDoor
