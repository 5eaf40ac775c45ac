/- Part 18 of the proof: what functions of the program do, and plain facts on what they compute. -/
import Derived.Test.YtefipnajpabfgaaGreatDoorP17
set_option linter.all false
set_option maxRecDepth 40000
set_option maxHeartbeats 16000000
set_option linter.unusedSimpArgs false
set_option linter.unusedVariables false
namespace Go.Proofs.YtefipnajpabfgaaGreatDoor
open Go.Nm

theorem bdrop_cons {l : List Bt} {i : Nat} (h : i < l.length) : l.take (i + 1) = l.take i ++ [l.getD i (0, 0, 0, [])] := gtake_succ h
theorem verW_take (key : List UInt8) (t : Nat) {ws : List Wt} {k : Nat} (h : k < ws.length) : verW key t (ws.take (k + 1)) = verW key t (ws.take k) ++ (if (wat ws k).1 = key then [(t, wat ws k)] else []) := by
 rw [wtake_succ h, verW_app, verW, verW, List.append_nil]
theorem verL_take (key : List UInt8) {bts : List Bt} {i : Nat} (h : i < bts.length) : verL key 1 (bts.take (i + 1)) = verL key 1 (bts.take i) ++ verW key (i + 1) (bts.getD i (0, 0, 0, [])).2.2.2 := by
 rw [bdrop_cons h, verL_app, verL, verL, List.append_nil, List.length_take]
 congr 2; omega

theorem refvalue_ok (bts : List Bt) (key : List UInt8) (q : Option Nat) (hb : bts.length ≤ 20) (hw : ∀ b ∈ bts, b.2.2.2.length ≤ 20) : CallT Tryz.prog 14 [.u (.fz (bts.map brow) q), .u (.s key)] []
  fun r σ => r = .tup [.u (.s (valR bts key).1), .u (.b (valR bts key).2)] ∧ σ = [] := by
 have hvl := fun i => verL_len key (B := 20) (bts.take i) 1 fun b hbm => hw b (List.mem_of_mem_take hbm)
 have hat := refat_ok (verL key 1 bts) bts.length none (fun x hx => by have := verL_le x hx; omega) (by have := verL_len key bts 1 hw; omega)
 have hwu := wrapu_nat (n := bts.length) (by omega)
 refine cof 63 [.tmp 4, .tmp 5] Tryz.func14 Tryz.ntmps14 fun c hnt hc0 => ?_
 refine sq fun _ k1 => rgn 0 ?_
 repeat refine ⟨sd, ?_⟩
 refine k1 (sq fun _ k2 => rgn 0 ?_)
 repeat refine ⟨sd, ?_⟩
 refine k2 (sq fun _ k3 => sq fun _ k4 => rgn 0 ?_)
 repeat refine ⟨sd, ?_⟩
 refine k4 (bk fun _ k5 => ?_)
 refine wps_loop (fun m e σ => ∃ (i : Nat), m = bts.length - i ∧ i ≤ bts.length ∧ e = [(0, .u (.fz (bts.map brow) q)), (1, .u (.s key)), (6, .h 0), (7, .u (.i .i64 (i : Int)))] ∧ σ = [.row 91 3 ((verL key 1 (bts.take i)).map verrow)])
  (e0 := [(0, .u (.fz (bts.map brow) q)), (1, .u (.s key)), (6, .h 0), (7, .u (.i .i64 0))]) (σ0 := [.row 91 3 []]) ((ent_thaw 91 3 (t := 6) rfl).trans (entL hc0 [some 0] rfl rfl mB mB)) ⟨0, rfl, Nat.zero_le _, rfl, rfl⟩ fun KL m e1 σ1 hI hKL => ?_
 obtain ⟨i, rfl, hi, rfl, rfl⟩ := hI
 refine sq fun _ k6 => sq fun _ k7 => rgn 0 ?_
 repeat refine ⟨sd, ?_⟩
 refine k7 (cd rfl (fun h1 => ?_) (fun h1 => ?_))
 ·have hlt : i < bts.length := by simpa using h1
  have hel := brow_at hlt
  have hvi := hvl i
  obtain ⟨b0, hb0⟩ : ∃ b0, bts.getD i (0, 0, 0, []) = b0 := ⟨_, rfl⟩
  have hbm : b0 ∈ bts := by rw [← hb0]; exact getD_mem hlt
  have hwl := hw b0 hbm
  have hvt := verL_take key hlt
  rw [hb0] at hel hvt
  have hw1 := wi1 i
  have hwu1 := wrapu_nat (n := i + 1) (by omega)
  have htk : (bts.take i).length ≤ 20 := by rw [List.length_take]; omega
  refine wps_skip (k6 (sq fun _ k8 => bk fun _ k9 => sq fun _ k10 => rgn 0 ?_))
  repeat refine ⟨sd, ?_⟩
  refine k10 (bk fun _ k11 => ?_)
  refine wps_loop (fun m e σ => ∃ (k : Nat), m = b0.2.2.2.length - k ∧ k ≤ b0.2.2.2.length ∧ e = [(0, .u (.fz (bts.map brow) q)), (1, .u (.s key)), (6, .h 0), (7, .u (.i .i64 (i : Int))), (8, .u (.i .i64 (k : Int)))] ∧ σ = [.row 91 3 ((verL key 1 (bts.take i) ++ verW key (i + 1) (b0.2.2.2.take k)).map verrow)])
   (e0 := [(0, .u (.fz (bts.map brow) q)), (1, .u (.s key)), (6, .h 0), (7, .u (.i .i64 (i : Int))), (8, .u (.i .i64 0))]) (σ0 := [.row 91 3 ((verL key 1 (bts.take i)).map verrow)]) (entL hc0 [some 0] rfl rfl mB mB) ⟨0, rfl, Nat.zero_le _, rfl, by simp [verW]⟩ fun KL2 m2 e2 σ2 hI2 hKL2 => ?_
  obtain ⟨k, rfl, hk, rfl, rfl⟩ := hI2
  refine sq fun _ k12 => sq fun _ k13 => rg 0 ?_
  refine evx hel ?_
  repeat refine ⟨sd, ?_⟩
  refine k13 (cd rfl (fun h2 => ?_) (fun h2 => ?_))
  ·have hlt2 : k < b0.2.2.2.length := by simpa using h2
   have hel2 := wrow_at hlt2
   have hvw := verW_take key (i + 1) hlt2
   have hwl2 := verW_len key (i + 1) (b0.2.2.2.take k)
   rw [List.length_take] at hwl2
   have hw2 := wi1 k
   have hr1 := verrow_ok1 (verL key 1 (bts.take i) ++ verW key (i + 1) (b0.2.2.2.take k))
   have hr2 := verrow_ok2 (verL key 1 (bts.take i) ++ verW key (i + 1) (b0.2.2.2.take k))
   have hrl : ((verL key 1 (bts.take i) ++ verW key (i + 1) (b0.2.2.2.take k)).map verrow).length ≤ 1000 := by
    rw [List.length_map, List.length_append]; omega
   obtain ⟨VS, hVS⟩ : ∃ VS, verL key 1 (bts.take i) ++ verW key (i + 1) (b0.2.2.2.take k) = VS := ⟨_, rfl⟩
   rw [hVS] at hr1 hr2 hrl ⊢
   have hVl : VS.length ≤ 1000 := by simpa using hrl
   refine wps_skip (k12 (sq fun _ k14 => bk fun _ k15 => sq fun _ k16 => rg 1 ?_))
   refine evx2 hel hel2 ?_
   repeat refine ⟨sd, ?_⟩
   refine k16 (sq fun _ k17 => ?_)
   refine wps_keep [0, 1, 6, 7, 8, 9] mK ?_
   refine rgn 0 ?_
   repeat refine ⟨sd, ?_⟩
   refine k17 (cd rfl (fun h3 => ?_) (fun h3 => ?_))
   ·have hke : (wat b0.2.2.2 k).1 = key := by simpa using h3
    rw [if_pos hke] at hvw
    refine rg 1 ?_
    refine evx2 hw1 hwu1 ?_
    repeat refine ⟨sd, ?_⟩
    refine k15 (k14 ?_)
    refine wps_keep [0, 1, 6, 7, 8] mK ?_
    refine rg 0 ?_
    refine evx hw2 ?_
    repeat refine ⟨sd, ?_⟩
    exact hKL2 _ _ (b0.2.2.2.length - (k + 1)) _ [.row 91 3 ((verL key 1 (bts.take i) ++ verW key (i + 1) (b0.2.2.2.take (k + 1))).map verrow)] (entL hc0 [some 2] rfl rfl mB (by rw [hvw, ← List.append_assoc, hVS]; simp only [go_sem, reduceIte, Nat.reduceEqDiff, Nat.reduceAdd, Nat.reduceLT, List.map_append, List.map_cons, List.map_nil, verrow])) ⟨k + 1, rfl, by omega, rfl, rfl⟩ (by omega)
   ·have hke : ¬ (wat b0.2.2.2 k).1 = key := by simpa using h3
    rw [if_neg hke, List.append_nil] at hvw
    refine wps_skip (k15 (k14 (rg 0 ?_)))
    refine evx hw2 ?_
    repeat refine ⟨sd, ?_⟩
    exact hKL2 _ _ (b0.2.2.2.length - (k + 1)) _ [.row 91 3 ((verL key 1 (bts.take i) ++ verW key (i + 1) (b0.2.2.2.take (k + 1))).map verrow)] (entL hc0 [some 0] rfl rfl mB (by rw [hvw, hVS]; simp only [go_sem, reduceIte, Nat.reduceEqDiff, Nat.reduceAdd, Nat.reduceLT])) ⟨k + 1, rfl, by omega, rfl, rfl⟩ (by omega)
  ·have hkl : k = b0.2.2.2.length := by simp at h2; omega
   subst hkl
   rw [List.take_length, ← hvt]
   refine wps_exit ?_
   simp only [reduceIte, Nat.reduceEqDiff]
   refine k11 (k9 (k8 (rg 0 ?_)))
   refine evx hw1 ?_
   repeat refine ⟨sd, ?_⟩
   exact hKL _ _ (bts.length - (i + 1)) _ _ (entL hc0 [some 0] rfl rfl mB mB) ⟨i + 1, rfl, by omega, rfl, rfl⟩ (by omega)
 ·have hil : i = bts.length := by simp at h1; omega
  subst hil
  rw [List.take_length]
  refine wps_exit ?_
  simp only [reduceIte, Nat.reduceEqDiff]
  refine k5 (k3 (sq fun _ k18 => ?_))
  refine wps_ent (e' := [(0, .u (.fz (bts.map brow) q)), (6, .u (.fz ((verL key 1 bts).map verrow) none))]) (entF 0 rfl mB rfl) ?_
  refine rg 0 ?_
  refine evx hwu ?_
  repeat refine ⟨sd, ?_⟩
  refine callT_at [] [] hat rfl rfl trivial mB mB rfl mR mR ?_
  refine evx hwu ?_
  repeat refine ⟨sd, ?_⟩
  refine k18 (sq fun _ k19 => ?_)
  refine wps_keep [10, 11] mK ?_
  refine rgn 0 ?_
  repeat refine ⟨sd, ?_⟩
  refine k19 (wps_ret ?_)
  refine retL [] mA mO rfl rfl ?_
  simp only [go_sem, and_true, true_and, implies_true, reduceIte, Nat.reduceEqDiff, Nat.reduceAdd, Nat.reduceLT, valR]

theorem lob_stop {key : List UInt8} : ∀ {l : List Cel}, lob key l < l.length → Op.bytesLess (l.getD (lob key l) ([], [])).1 key = false
 | [], h => by simp at h
 | a :: l, h => by
  unfold lob at h ⊢
  rw [List.takeWhile_cons] at h ⊢
  split at h
  ·rename_i ha
   rw [if_pos ha]
   have := lob_stop (key := key) (l := l) (by unfold lob; simpa using h)
   simpa [lob] using this
  ·rename_i ha
   rw [if_neg ha]
   simpa using ha
def scStep (bts : List Bt) (out : List Cel) (w : Wt) : List Cel := if (valR bts w.1).2 && !keyAt w.1 out then out.take (lob w.1 out) ++ (w.1, (valR bts w.1).1) :: out.drop (lob w.1 out) else out
def scW (bts : List Bt) (out : List Cel) (ws : List Wt) : List Cel := ws.foldl (scStep bts) out
def scB (bts : List Bt) (out : List Cel) (bs : List Bt) : List Cel := bs.foldl (fun o b => scW bts o b.2.2.2) out
/-- the keys behind some batches, with their values -/
def scanR (bts : List Bt) : List Cel := scB bts [] bts
theorem scStep_len (bts : List Bt) (out : List Cel) (w : Wt) : (scStep bts out w).length ≤ out.length + 1 := by
 have := lob_le w.1 out
 rw [scStep]
 split
 ·simp; omega
 ·omega
theorem scW_len (bts : List Bt) : ∀ (ws : List Wt) (out : List Cel), (scW bts out ws).length ≤ out.length + ws.length
 | [], out => Nat.le_refl _
 | w :: r, out => by
  have h1 := scStep_len bts out w
  have h2 := scW_len bts r (scStep bts out w)
  rw [show scW bts out (w :: r) = scW bts (scStep bts out w) r from rfl, List.length_cons]; omega
theorem scB_len (bts : List Bt) {B : Nat} : ∀ (bs : List Bt) (out : List Cel), (∀ b ∈ bs, b.2.2.2.length ≤ B) → (scB bts out bs).length ≤ out.length + B * bs.length
 | [], out, _ => by simp [scB]
 | b :: r, out, h => by
  have h1 := scW_len bts b.2.2.2 out
  have h2 := scB_len bts r (scW bts out b.2.2.2) fun x hx => h x (by simp [hx])
  have h3 := h b (by simp)
  rw [show scB bts out (b :: r) = scB bts (scW bts out b.2.2.2) r from rfl, List.length_cons, Nat.mul_add, Nat.mul_one]; omega

theorem refscan_ok (bts : List Bt) (q : Option Nat) (hb : bts.length ≤ 20) (hw : ∀ b ∈ bts, b.2.2.2.length ≤ 20) : CallT Tryz.prog 18 [.u (.fz (bts.map brow) q), .agg [.u (.s []), .u (.s []), .u (.b true), .u (.b false), .u (.i .i64 (-1))]] []
  fun r σ => r = .u (.fz ((scanR bts).map crow) none) ∧ σ = [] := by
 have hval := fun key => refvalue_ok bts key q hb hw
 have hlen := fun i => scB_len bts (B := 20) (bts.take i) [] fun b hbm => hw b (List.mem_of_mem_take hbm)
 refine cof 140 [.tmp 4] Tryz.func18 Tryz.ntmps18 fun c hnt hc0 => ?_
 refine sq fun _ k1 => rgn 1 ?_
 repeat refine ⟨sd, ?_⟩
 refine k1 (sq fun _ k2 => rgn 0 ?_)
 repeat refine ⟨sd, ?_⟩
 refine k2 (sq fun _ k3 => sq fun _ k4 => rgn 0 ?_)
 repeat refine ⟨sd, ?_⟩
 refine k4 (bk fun _ k5 => ?_)
 refine wps_loop (fun m e σ => ∃ (i : Nat) (q2 : Option Nat), m = bts.length - i ∧ i ≤ bts.length ∧ e = [(0, .u (.fz (bts.map brow) q)), (3, .p 0 0), (5, .u (.fz ((scB bts [] (bts.take i)).map crow) q2)), (6, .u (.i .i64 (i : Int)))] ∧ σ = [.cells [.u (.s []), .u (.s []), .u (.b true), .u (.b false), .u (.i .i64 (-1))]])
  (e0 := [(0, .u (.fz (bts.map brow) q)), (3, .p 0 0), (5, .u (.fz (([]).map crow) (some 0))), (6, .u (.i .i64 0))]) (σ0 := [.cells [.u (.s []), .u (.s []), .u (.b true), .u (.b false), .u (.i .i64 (-1))]]) (entL hc0 [some 0] rfl rfl (by simp only [go_sem, reduceIte, Nat.reduceEqDiff, Nat.reduceAdd, Nat.reduceLT, List.map_nil]) mB) ⟨0, some 0, rfl, Nat.zero_le _, rfl, rfl⟩ fun KL m e1 σ1 hI hKL => ?_
 obtain ⟨i, q2, rfl, hi, rfl, rfl⟩ := hI
 refine sq fun _ k6 => sq fun _ k7 => rgn 0 ?_
 repeat refine ⟨sd, ?_⟩
 refine k7 (cd rfl (fun h1 => ?_) (fun h1 => ?_))
 ·have hlt : i < bts.length := by simpa using h1
  have hel := brow_at hlt
  have hli := hlen i
  obtain ⟨b0, hb0⟩ : ∃ b0, bts.getD i (0, 0, 0, []) = b0 := ⟨_, rfl⟩
  have hbm : b0 ∈ bts := by rw [← hb0]; exact getD_mem hlt
  have hwl := hw b0 hbm
  rw [hb0] at hel
  have hst : scB bts [] (bts.take (i + 1)) = scW bts (scB bts [] (bts.take i)) b0.2.2.2 := by
   rw [bdrop_cons hlt, hb0, scB, List.foldl_append]; rfl
  have hw1 := wi1 i
  have htk : (bts.take i).length ≤ 20 := by rw [List.length_take]; omega
  obtain ⟨O0, hO0⟩ : ∃ O0, scB bts [] (bts.take i) = O0 := ⟨_, rfl⟩
  rw [hO0] at hst hli ⊢
  refine wps_skip (k6 (sq fun _ k8 => bk fun _ k9 => sq fun _ k10 => rgn 0 ?_))
  repeat refine ⟨sd, ?_⟩
  refine k10 (bk fun _ k11 => ?_)
  refine wps_loop (fun m e σ => ∃ (k : Nat) (q2 : Option Nat), m = b0.2.2.2.length - k ∧ k ≤ b0.2.2.2.length ∧ e = [(0, .u (.fz (bts.map brow) q)), (3, .p 0 0), (5, .u (.fz ((scW bts O0 (b0.2.2.2.take k)).map crow) q2)), (6, .u (.i .i64 (i : Int))), (7, .u (.i .i64 (k : Int)))] ∧ σ = [.cells [.u (.s []), .u (.s []), .u (.b true), .u (.b false), .u (.i .i64 (-1))]])
   (e0 := [(0, .u (.fz (bts.map brow) q)), (3, .p 0 0), (5, .u (.fz ((O0).map crow) q2)), (6, .u (.i .i64 (i : Int))), (7, .u (.i .i64 0))]) (σ0 := [.cells [.u (.s []), .u (.s []), .u (.b true), .u (.b false), .u (.i .i64 (-1))]]) (entL hc0 [some 0] rfl rfl mB mB) ⟨0, q2, rfl, Nat.zero_le _, rfl, rfl⟩ fun KL2 m2 e2 σ2 hI2 hKL2 => ?_
  clear q2
  obtain ⟨k, q2, rfl, hk, rfl, rfl⟩ := hI2
  refine sq fun _ k12 => sq fun _ k13 => rg 0 ?_
  refine evx hel ?_
  repeat refine ⟨sd, ?_⟩
  refine k13 (cd rfl (fun h2 => ?_) (fun h2 => ?_))
  ·have hlt2 : k < b0.2.2.2.length := by simpa using h2
   have hel2 := wrow_at hlt2
   have hsl := scW_len bts (b0.2.2.2.take k) O0
   rw [List.length_take] at hsl
   have hsw : scW bts O0 (b0.2.2.2.take (k + 1)) = scStep bts (scW bts O0 (b0.2.2.2.take k)) (wat b0.2.2.2 k) := by
    rw [wtake_succ hlt2, scW, List.foldl_append]; rfl
   have hw2 := wi1 k
   obtain ⟨key, hkey⟩ : ∃ key, (wat b0.2.2.2 k).1 = key := ⟨_, rfl⟩
   have hv := hval key
   obtain ⟨s0, hs0⟩ : ∃ s0, (valR bts key).1 = s0 := ⟨_, rfl⟩
   obtain ⟨b1, hb1⟩ : ∃ b1, (valR bts key).2 = b1 := ⟨_, rfl⟩
   obtain ⟨out, hout⟩ : ∃ out, scW bts O0 (b0.2.2.2.take k) = out := ⟨_, rfl⟩
   rw [hout] at hsl hsw ⊢
   rw [scStep, hkey, hs0, hb1] at hsw
   rw [hs0, hb1] at hv
   rw [hkey] at hel2
   have hbn : Op.bytesLess key [] = false := by cases key <;> rfl
   have hol : out.length ≤ 1000 := by simp at hli; omega
   have hr1 := crow_ok1 out
   have hr2 := crow_ok2 out
   have hle := lob_le key out
   refine wps_skip (k12 (sq fun _ k14 => bk fun _ k15 => sq fun _ k16 => rg 0 ?_))
   refine evx2 hel hel2 ?_
   repeat refine ⟨sd, ?_⟩
   refine k16 (sq fun _ k17 => ?_)
   refine wps_keep [0, 3, 5, 6, 7, 8] mK ?_
   refine rgn 0 ?_
   repeat refine ⟨sd, ?_⟩
   refine callT_at [] [] hv rfl rfl trivial mB mB rfl mR mR ?_
   refine evl ?_
   repeat refine ⟨sd, ?_⟩
   refine k17 (sq fun _ k18 => ?_)
   refine wps_keep [0, 3, 5, 6, 7, 8, 9, 10] mK ?_
   refine rgn 0 ?_
   repeat refine ⟨sd, ?_⟩
   refine k18 (sq fun _ k19 => bk fun _ k20 => ?_)
   refine wps_loop (fun m e σ => ∃ (a : Nat), m = lob key out - a ∧ a ≤ lob key out ∧ e = [(0, .u (.fz (bts.map brow) q)), (3, .p 0 0), (5, .u (.fz (out.map crow) q2)), (6, .u (.i .i64 (i : Int))), (7, .u (.i .i64 (k : Int))), (8, .u (.s key)), (9, .u (.s s0)), (10, .u (.b b1)), (11, .u (.i .i64 (a : Int)))] ∧ σ = [.cells [.u (.s []), .u (.s []), .u (.b true), .u (.b false), .u (.i .i64 (-1))]])
    (e0 := [(0, .u (.fz (bts.map brow) q)), (3, .p 0 0), (5, .u (.fz (out.map crow) q2)), (6, .u (.i .i64 (i : Int))), (7, .u (.i .i64 (k : Int))), (8, .u (.s key)), (9, .u (.s s0)), (10, .u (.b b1)), (11, .u (.i .i64 0))]) (σ0 := [.cells [.u (.s []), .u (.s []), .u (.b true), .u (.b false), .u (.i .i64 (-1))]]) (entL hc0 [some 0] rfl rfl mB mB) ⟨0, rfl, Nat.zero_le _, rfl, rfl⟩ fun KL3 m3 e3 σ3 hI3 hKL3 => ?_
   obtain ⟨a, rfl, ha, rfl, rfl⟩ := hI3
   refine sq fun _ k21 => sq fun _ k22 => ?_
   rcases Nat.lt_or_ge a (lob key out) with hal | hal
   rotate_left
   rcases Nat.lt_or_ge a out.length with hao | hao
   rotate_left
   rotate_left
   ·have hao : a < out.length := by omega
    have hl3 := crow_at hao
    have hbl := lob_lt hal
    have hda : decide ((a : Int) < (out.length : Int)) = true := decide_eq_true (by omega)
    have hw3 := wi1 a
    refine rg 0 ?_
    simp only [↓kOps_app, ↓evOps_nil, ↓evOps_cons, go_sem, Int.reduceAdd, Int.reduceBEq, Int.reduceEq, Int.reduceLE, Int.reduceLT, Int.reduceNe, Int.reduceSub, Int.reduceToNat, Nat.reduceAdd, Nat.reduceBEq, Nat.reduceEqDiff, Nat.reduceLT, Nat.reduceLeDiff, Nat.reduceMul, Nat.reduceSub, reduceCtorEq, reduceIte, hda, hl3, hbl, List.drop_nil, List.map_nil, List.getD_nil]
    repeat refine ⟨sd, ?_⟩
    refine k22 (cd rfl (fun h3 => ?_) (fun h3 => ?_))
    ·refine wps_skip (k21 (bk fun _ k23 => ?_))
     refine wps_keep [0, 3, 5, 6, 7, 8, 9, 10, 11] mK ?_
     refine rg 0 ?_
     refine evx hw3 ?_
     repeat refine ⟨sd, ?_⟩
     refine k23 ?_
     exact hKL3 _ _ (lob key out - (a + 1)) _ _ (entL hc0 [some 0] rfl rfl mB mB) ⟨a + 1, rfl, by omega, rfl, rfl⟩ (by omega)
    ·exact absurd h3 (by simp)
   ·have hae : a = lob key out := by omega
    have hl3 := crow_at hao
    have hbl : Op.bytesLess (out.getD a ([], [])).1 key = false := by rw [hae]; exact lob_stop (by omega)
    have hda : decide ((a : Int) < (out.length : Int)) = true := decide_eq_true (by omega)
    refine rg 0 ?_
    simp only [↓kOps_app, ↓evOps_nil, ↓evOps_cons, go_sem, Int.reduceAdd, Int.reduceBEq, Int.reduceEq, Int.reduceLE, Int.reduceLT, Int.reduceNe, Int.reduceSub, Int.reduceToNat, Nat.reduceAdd, Nat.reduceBEq, Nat.reduceEqDiff, Nat.reduceLT, Nat.reduceLeDiff, Nat.reduceMul, Nat.reduceSub, reduceCtorEq, reduceIte, hda, hl3, hbl, List.drop_nil, List.map_nil, List.getD_nil]
    repeat refine ⟨sd, ?_⟩
    refine k22 (cd rfl (fun h3 => ?_) (fun h3 => ?_))
    ·exact absurd h3 (by simp)
    ·refine wps_exit ?_
     simp only [reduceIte, Nat.reduceEqDiff]
     refine k20 (k19 (sq fun _ k24 => ?_))
     refine wps_keep [0, 3, 5, 6, 7, 8, 9, 10, 11] mK ?_
     have hdl : ((a : Int) == (out.length : Int)) = false := beq_eq_false_iff_ne.2 (by omega)
     obtain ⟨e0, he0⟩ : ∃ e0, out.getD a ([], []) = e0 := ⟨_, rfl⟩
     have hka : keyAt key out = (e0.1 == key) := by
      rw [keyAt, ← hae, List.getElem?_eq_getElem hao]
      have : out[a] = e0 := by rw [← he0, List.getD_eq_getElem?_getD, List.getElem?_eq_getElem hao]; rfl
      rw [this]
     rw [he0] at hl3
     rw [← hae, hka] at hsw
     refine rg 0 ?_
     simp only [↓kOps_app, ↓evOps_nil, ↓evOps_cons, go_sem, Int.reduceAdd, Int.reduceBEq, Int.reduceEq, Int.reduceLE, Int.reduceLT, Int.reduceNe, Int.reduceSub, Int.reduceToNat, Nat.reduceAdd, Nat.reduceBEq, Nat.reduceEqDiff, Nat.reduceLT, Nat.reduceLeDiff, Nat.reduceMul, Nat.reduceSub, reduceCtorEq, reduceIte, hbn, hdl, hl3, List.drop_nil, List.map_nil, List.getD_nil]
     repeat refine ⟨sd, ?_⟩
     refine k24 (cd rfl (fun h4 => ?_) (fun h4 => ?_))
     ·have hc : (b1 && !(e0.1 == key)) = true := by revert h4; cases b1 <;> cases (e0.1 == key) <;> simp
      rw [if_pos hc] at hsw
      refine sq fun _ k25 => ?_
      refine wps_keep [0, 3, 5, 6, 7, 8, 9, 11] mK ?_
      have hmt : (out.map crow).take a = (out.take a).map crow := by rw [List.map_take]
      have hmd : (out.map crow).drop a = (out.drop a).map crow := by rw [List.map_drop]
      have hta : (out.map crow).take out.length = out.map crow := by rw [List.take_of_length_le]; simp
      have hq1 := crow_ok1 (out.take a)
      have hq2 := crow_ok2 (out.take a)
      have hq3 := crow_ok1 (out.drop a)
      have hq4 := crow_ok2 (out.drop a)
      have hq5 : (out.take a).length ≤ 1000 := by rw [List.length_take]; omega
      have hq6 : (out.drop a).length ≤ 1000 := by rw [List.length_drop]; omega
      simp only [PV.one] at hq2 hq4
      refine rg 2 ?_
      refine evx hmt ?_
      repeat refine ⟨sd, ?_⟩
      refine k25 ?_
      refine wps_keep [0, 3, 5, 6, 7, 11, 12] mK ?_
      refine rg 1 ?_
      refine evx2 hta hmd ?_
      repeat refine ⟨sd, ?_⟩
      refine k15 (k14 ?_)
      refine wps_keep [0, 3, 5, 6, 7] mK ?_
      refine rg 0 ?_
      refine evx hw2 ?_
      repeat refine ⟨sd, ?_⟩
      exact hKL2 _ _ (b0.2.2.2.length - (k + 1)) _ [.cells [.u (.s []), .u (.s []), .u (.b true), .u (.b false), .u (.i .i64 (-1))]] ((entF 3 rfl (e' := [(0, .u (.fz (bts.map brow) q)), (3, .p 0 0), (5, .u (.fz ((scW bts O0 (b0.2.2.2.take (k + 1))).map crow) none)), (6, .u (.i .i64 (i : Int))), (7, .u (.i .i64 ((k + 1 : Nat) : Int)))]) (by rw [hsw]; simp only [go_sem, reduceIte, Nat.reduceEqDiff, Nat.reduceAdd, Nat.reduceLT, List.map_append, List.map_cons, List.map_nil, crow, List.append_assoc, List.cons_append, List.nil_append]) rfl).trans (entL hc0 [some 0] rfl rfl mB mB)) ⟨k + 1, none, rfl, by omega, rfl, rfl⟩ (by omega)
     ·have hc : (b1 && !(e0.1 == key)) = false := by revert h4; cases b1 <;> cases (e0.1 == key) <;> simp
      rw [if_neg (by rw [hc]; simp)] at hsw
      refine wps_skip (k15 (k14 ?_))
      refine wps_keep [0, 3, 5, 6, 7] mK ?_
      refine rg 0 ?_
      refine evx hw2 ?_
      repeat refine ⟨sd, ?_⟩
      exact hKL2 _ _ (b0.2.2.2.length - (k + 1)) _ [.cells [.u (.s []), .u (.s []), .u (.b true), .u (.b false), .u (.i .i64 (-1))]] (entL hc0 [some 0] rfl rfl (by rw [hsw]; simp only [go_sem, reduceIte, Nat.reduceEqDiff, Nat.reduceAdd, Nat.reduceLT]) mB) ⟨k + 1, q2, rfl, by omega, rfl, rfl⟩ (by omega)
   ·have hae : a = lob key out := by omega
    have hl3 : (out.map crow).getD a [] = [] := by rw [List.getD_eq_getElem?_getD, List.getElem?_eq_none (by simpa using hao)]; rfl
    have hbl : True = True := rfl
    have hda : decide ((a : Int) < (out.length : Int)) = false := decide_eq_false (by omega)
    refine rg 0 ?_
    simp only [↓kOps_app, ↓evOps_nil, ↓evOps_cons, go_sem, Int.reduceAdd, Int.reduceBEq, Int.reduceEq, Int.reduceLE, Int.reduceLT, Int.reduceNe, Int.reduceSub, Int.reduceToNat, Nat.reduceAdd, Nat.reduceBEq, Nat.reduceEqDiff, Nat.reduceLT, Nat.reduceLeDiff, Nat.reduceMul, Nat.reduceSub, reduceCtorEq, reduceIte, hda, hl3, hbl, List.drop_nil, List.map_nil, List.getD_nil]
    repeat refine ⟨sd, ?_⟩
    refine k22 (cd rfl (fun h3 => ?_) (fun h3 => ?_))
    ·exact absurd h3 (by simp)
    ·refine wps_exit ?_
     simp only [reduceIte, Nat.reduceEqDiff]
     refine k20 (k19 (sq fun _ k26 => ?_))
     refine wps_keep [0, 3, 5, 6, 7, 8, 9, 10, 11] mK ?_
     have hdl : ((a : Int) == (out.length : Int)) = true := beq_iff_eq.2 (by omega)
     have hka : keyAt key out = false := by rw [keyAt, ← hae, List.getElem?_eq_none hao]
     rw [← hae, hka] at hsw
     refine rg 0 ?_
     simp only [↓kOps_app, ↓evOps_nil, ↓evOps_cons, go_sem, Int.reduceAdd, Int.reduceBEq, Int.reduceEq, Int.reduceLE, Int.reduceLT, Int.reduceNe, Int.reduceSub, Int.reduceToNat, Nat.reduceAdd, Nat.reduceBEq, Nat.reduceEqDiff, Nat.reduceLT, Nat.reduceLeDiff, Nat.reduceMul, Nat.reduceSub, reduceCtorEq, reduceIte, hbn, hdl, hl3, List.drop_nil, List.map_nil, List.getD_nil]
     repeat refine ⟨sd, ?_⟩
     refine k26 (cd rfl (fun h4 => ?_) (fun h4 => ?_))
     ·have hc : b1 = true := by revert h4; cases b1 <;> simp
      rw [hc, if_pos (by simp)] at hsw
      refine sq fun _ k27 => ?_
      refine wps_keep [0, 3, 5, 6, 7, 8, 9, 11] mK ?_
      have hmt : (out.map crow).take a = (out.take a).map crow := by rw [List.map_take]
      have hmd : (out.map crow).drop a = (out.drop a).map crow := by rw [List.map_drop]
      have hta : (out.map crow).take out.length = out.map crow := by rw [List.take_of_length_le]; simp
      have hq1 := crow_ok1 (out.take a)
      have hq2 := crow_ok2 (out.take a)
      have hq3 := crow_ok1 (out.drop a)
      have hq4 := crow_ok2 (out.drop a)
      have hq5 : (out.take a).length ≤ 1000 := by rw [List.length_take]; omega
      have hq6 : (out.drop a).length ≤ 1000 := by rw [List.length_drop]; omega
      simp only [PV.one] at hq2 hq4
      refine rg 2 ?_
      refine evx hmt ?_
      repeat refine ⟨sd, ?_⟩
      refine k27 ?_
      refine wps_keep [0, 3, 5, 6, 7, 11, 12] mK ?_
      refine rg 1 ?_
      refine evx2 hta hmd ?_
      repeat refine ⟨sd, ?_⟩
      refine k15 (k14 ?_)
      refine wps_keep [0, 3, 5, 6, 7] mK ?_
      refine rg 0 ?_
      refine evx hw2 ?_
      repeat refine ⟨sd, ?_⟩
      exact hKL2 _ _ (b0.2.2.2.length - (k + 1)) _ [.cells [.u (.s []), .u (.s []), .u (.b true), .u (.b false), .u (.i .i64 (-1))]] ((entF 3 rfl (e' := [(0, .u (.fz (bts.map brow) q)), (3, .p 0 0), (5, .u (.fz ((scW bts O0 (b0.2.2.2.take (k + 1))).map crow) none)), (6, .u (.i .i64 (i : Int))), (7, .u (.i .i64 ((k + 1 : Nat) : Int)))]) (by rw [hsw]; simp only [go_sem, reduceIte, Nat.reduceEqDiff, Nat.reduceAdd, Nat.reduceLT, List.map_append, List.map_cons, List.map_nil, crow, List.append_assoc, List.cons_append, List.nil_append]) rfl).trans (entL hc0 [some 0] rfl rfl mB mB)) ⟨k + 1, none, rfl, by omega, rfl, rfl⟩ (by omega)
     ·have hc : b1 = false := by revert h4; cases b1 <;> simp
      rw [hc, if_neg (by simp)] at hsw
      refine wps_skip (k15 (k14 ?_))
      refine wps_keep [0, 3, 5, 6, 7] mK ?_
      refine rg 0 ?_
      refine evx hw2 ?_
      repeat refine ⟨sd, ?_⟩
      exact hKL2 _ _ (b0.2.2.2.length - (k + 1)) _ [.cells [.u (.s []), .u (.s []), .u (.b true), .u (.b false), .u (.i .i64 (-1))]] (entL hc0 [some 0] rfl rfl (by rw [hsw]; simp only [go_sem, reduceIte, Nat.reduceEqDiff, Nat.reduceAdd, Nat.reduceLT]) mB) ⟨k + 1, q2, rfl, by omega, rfl, rfl⟩ (by omega)
  ·have hkl : k = b0.2.2.2.length := by simp at h2; omega
   subst hkl
   rw [List.take_length, ← hst]
   refine wps_exit ?_
   simp only [reduceIte, Nat.reduceEqDiff]
   refine k11 (k9 (k8 (rg 0 ?_)))
   refine evx hw1 ?_
   repeat refine ⟨sd, ?_⟩
   exact hKL _ _ (bts.length - (i + 1)) _ _ (entL hc0 [some 0] rfl rfl mB mB) ⟨i + 1, q2, rfl, by omega, rfl, rfl⟩ (by omega)
 ·have hil : i = bts.length := by simp at h1; omega
  subst hil
  rw [List.take_length, show scB bts [] bts = scanR bts from rfl]
  refine wps_exit ?_
  simp only [reduceIte, Nat.reduceEqDiff]
  refine k5 (k3 (sq fun _ k28 => sq fun _ k29 => rgn 0 ?_))
  repeat refine ⟨sd, ?_⟩
  refine k29 (cd rfl (fun h5 => ?_) (fun h5 => ?_))
  ·exact absurd h5 (by simp)
  ·refine wps_skip (k28 (sq fun _ k30 => ?_))
   refine wps_keep [5] mK ?_
   refine rgn 0 ?_
   repeat refine ⟨sd, ?_⟩
   refine k30 ?_
   refine wps_ent (e' := [(4, .u (.fz ((scanR bts).map crow) none))]) (σ' := []) ((ent_cap 4 rfl).trans (entL hc0 [] rfl rfl mB mB)) ?_
   refine wps_ret ?_
   refine retL [] rfl ⟨trivial, trivial⟩ rfl rfl ?_
   exact mT


/-- the first writes of a batch, their texts cut -/
def cutW (w : Wt) : Wt := (w.1.take 300, w.2.1.take 300, w.2.2)
def fewW (ws : List Wt) : List Wt := (ws.take 10).map cutW
theorem fewW_len (ws : List Wt) : (fewW ws).length ≤ 10 := by
 rw [fewW, List.length_map, List.length_take]; omega
theorem take_of_le {α} {n : Nat} {l : List α} (h : ¬ n < l.length) : l.take n = l := List.take_of_length_le (by omega)

theorem few_ok (ws : List Wt) (q : Option Nat) : CallT Tryz.prog 24 [.u (.fz (ws.map wrow) q)] []
  fun r σ => r = .u (.fz ((fewW ws).map wrow) none) ∧ σ = [] := by
 refine cof 42 [.tmp 2] Tryz.func24 Tryz.ntmps24 fun c hnt hc0 => ?_
 refine sq fun _ k1 => rgn 0 ?_
 repeat refine ⟨sd, ?_⟩
 refine k1 (sq fun _ k2 => rgn 0 ?_)
 repeat refine ⟨sd, ?_⟩
 refine k2 (sq fun _ k3 => sq fun _ k4 => rgn 0 ?_)
 repeat refine ⟨sd, ?_⟩
 refine k4 (bk fun _ k5 => ?_)
 refine wps_loop (fun m e σ => ∃ (i : Nat), m = 10 - i ∧ i ≤ 10 ∧ i ≤ ws.length ∧ e = [(0, .u (.fz (ws.map wrow) q)), (3, .h 0), (4, .u (.i .i64 (i : Int)))] ∧ σ = [.row 44 3 (((ws.take i).map cutW).map wrow)])
  (e0 := [(0, .u (.fz (ws.map wrow) q)), (3, .h 0), (4, .u (.i .i64 0))]) (σ0 := [.row 44 3 []]) ((ent_thaw 44 3 (t := 3) rfl).trans (entL hc0 [some 0] rfl rfl mB mB)) ⟨0, rfl, Nat.zero_le _, Nat.zero_le _, rfl, rfl⟩ fun KL m e1 σ1 hI hKL => ?_
 obtain ⟨i, rfl, hi, hi2, rfl, rfl⟩ := hI
 refine sq fun _ k6 => sq fun _ k7 => rgn 0 ?_
 repeat refine ⟨sd, ?_⟩
 refine k7 (cd rfl (fun h1 => ?_) (fun h1 => ?_))
 ·have hlt : i < ws.length ∧ i < 10 := by simp at h1; omega
  have hel := wrow_at hlt.1
  have hw1 := wi1 i
  have hts := wtake_succ hlt.1
  refine wps_skip (k6 (sq fun _ k8 => bk fun _ k9 => sq fun _ k10 => ?_))
  refine wps_keep [0, 3, 4] mK ?_
  refine rg 1 ?_
  refine evx hel ?_
  repeat refine ⟨sd, ?_⟩
  refine k10 (sq fun _ k11 => sq fun _ k12 => ?_)
  refine wps_keep [0, 3, 4, 5] mK ?_
  refine rgn 0 ?_
  repeat refine ⟨sd, ?_⟩
  refine k12 (cd rfl (fun h2 => ?_) (fun h2 => ?_))
  ·have h2' : 300 < (wat ws i).1.length := by simp at h2; omega
   refine wps_keep [0, 3, 4, 5] mK ?_
   refine rgn 0 ?_
   repeat refine ⟨sd, ?_⟩
   refine k11 (sq fun _ k13 => sq fun _ k14 => ?_)
   refine wps_keep [0, 3, 4, 5] mK ?_
   refine rgn 0 ?_
   repeat refine ⟨sd, ?_⟩
   refine k14 (cd rfl (fun h3 => ?_) (fun h3 => ?_))
   ·have h3' : 300 < (wat ws i).2.1.length := by simp at h3; omega
    refine wps_keep [0, 3, 4, 5] mK ?_
    refine rgn 0 ?_
    repeat refine ⟨sd, ?_⟩
    refine k13 ?_
    refine wps_keep [0, 3, 4, 5] mK ?_
    refine rgn 1 ?_
    repeat refine ⟨sd, ?_⟩
    refine k9 (k8 ?_)
    refine wps_keep [0, 3, 4] mK ?_
    refine rg 0 ?_
    refine evx hw1 ?_
    repeat refine ⟨sd, ?_⟩
    exact hKL _ _ (10 - (i + 1)) _ [.row 44 3 (((ws.take (i + 1)).map cutW).map wrow)] (entL hc0 [some 2] rfl rfl mB (by rw [hts, List.map_append, List.map_append]; simp only [go_sem, reduceIte, Nat.reduceEqDiff, Nat.reduceAdd, Nat.reduceLT, List.map_cons, List.map_nil, wrow, cutW, List.drop_zero]; skip)) ⟨i + 1, rfl, by omega, by omega, rfl, rfl⟩ (by omega)
   ·have h3' := take_of_le (n := 300) (l := (wat ws i).2.1) (by simp at h3; omega)
    refine wps_skip (k13 ?_)
    refine wps_keep [0, 3, 4, 5] mK ?_
    refine rgn 1 ?_
    repeat refine ⟨sd, ?_⟩
    refine k9 (k8 ?_)
    refine wps_keep [0, 3, 4] mK ?_
    refine rg 0 ?_
    refine evx hw1 ?_
    repeat refine ⟨sd, ?_⟩
    exact hKL _ _ (10 - (i + 1)) _ [.row 44 3 (((ws.take (i + 1)).map cutW).map wrow)] (entL hc0 [some 2] rfl rfl mB (by rw [hts, List.map_append, List.map_append]; simp only [go_sem, reduceIte, Nat.reduceEqDiff, Nat.reduceAdd, Nat.reduceLT, List.map_cons, List.map_nil, wrow, cutW, List.drop_zero]; rw [h3'])) ⟨i + 1, rfl, by omega, by omega, rfl, rfl⟩ (by omega)
  ·have h2' := take_of_le (n := 300) (l := (wat ws i).1) (by simp at h2; omega)
   refine wps_skip (k11 (sq fun _ k15 => sq fun _ k16 => ?_))
   refine wps_keep [0, 3, 4, 5] mK ?_
   refine rgn 0 ?_
   repeat refine ⟨sd, ?_⟩
   refine k16 (cd rfl (fun h3 => ?_) (fun h3 => ?_))
   ·have h3' : 300 < (wat ws i).2.1.length := by simp at h3; omega
    refine wps_keep [0, 3, 4, 5] mK ?_
    refine rgn 0 ?_
    repeat refine ⟨sd, ?_⟩
    refine k15 ?_
    refine wps_keep [0, 3, 4, 5] mK ?_
    refine rgn 1 ?_
    repeat refine ⟨sd, ?_⟩
    refine k9 (k8 ?_)
    refine wps_keep [0, 3, 4] mK ?_
    refine rg 0 ?_
    refine evx hw1 ?_
    repeat refine ⟨sd, ?_⟩
    exact hKL _ _ (10 - (i + 1)) _ [.row 44 3 (((ws.take (i + 1)).map cutW).map wrow)] (entL hc0 [some 2] rfl rfl mB (by rw [hts, List.map_append, List.map_append]; simp only [go_sem, reduceIte, Nat.reduceEqDiff, Nat.reduceAdd, Nat.reduceLT, List.map_cons, List.map_nil, wrow, cutW, List.drop_zero]; rw [h2'])) ⟨i + 1, rfl, by omega, by omega, rfl, rfl⟩ (by omega)
   ·have h3' := take_of_le (n := 300) (l := (wat ws i).2.1) (by simp at h3; omega)
    refine wps_skip (k15 ?_)
    refine wps_keep [0, 3, 4, 5] mK ?_
    refine rgn 1 ?_
    repeat refine ⟨sd, ?_⟩
    refine k9 (k8 ?_)
    refine wps_keep [0, 3, 4] mK ?_
    refine rg 0 ?_
    refine evx hw1 ?_
    repeat refine ⟨sd, ?_⟩
    exact hKL _ _ (10 - (i + 1)) _ [.row 44 3 (((ws.take (i + 1)).map cutW).map wrow)] (entL hc0 [some 2] rfl rfl mB (by rw [hts, List.map_append, List.map_append]; simp only [go_sem, reduceIte, Nat.reduceEqDiff, Nat.reduceAdd, Nat.reduceLT, List.map_cons, List.map_nil, wrow, cutW, List.drop_zero]; rw [h2', h3'])) ⟨i + 1, rfl, by omega, by omega, rfl, rfl⟩ (by omega)
 ·have hfin : fewW ws = (ws.take i).map cutW := by
   rw [fewW]
   by_cases h10 : i = 10
   ·rw [h10]
   ·have : i = ws.length := by simp at h1; omega
    rw [this, List.take_length, List.take_of_length_le (by omega)]
  refine wps_exit ?_
  simp only [reduceIte, Nat.reduceEqDiff]
  refine k5 (k3 (sq fun _ k17 => ?_))
  refine wps_keep [3] mK ?_
  refine wps_ent (e' := [(3, .u (.fz (((ws.take i).map cutW).map wrow) none))]) (entF 0 rfl mB rfl) ?_
  refine rgn 0 ?_
  repeat refine ⟨sd, ?_⟩
  refine k17 (wps_ret ?_)
  refine retL [] mA mO rfl rfl ?_
  simp only [go_sem, and_true, true_and, implies_true, reduceIte, Nat.reduceEqDiff, Nat.reduceAdd, Nat.reduceLT, hfin]

theorem fewer_ok (cl r s : Int) (ws : List Wt) (q : Option Nat) : CallT Tryz.prog 8 [.agg (bcells cl r s ws q)] []
  fun x σ => x = .agg (bcells cl r s (fewW ws) none) ∧ σ = [] := by
 have hf := few_ok ws q
 unfold bcells
 refine cof 8 [.cell 2 34] Tryz.func8 Tryz.ntmps8 fun c hnt hc0 => ?_
 refine sq fun _ k1 => rgn 2 ?_
 repeat refine ⟨sd, ?_⟩
 refine k1 (sq fun _ k2 => rgn 0 ?_)
 repeat refine ⟨sd, ?_⟩
 refine callT_at [] [] hf rfl rfl trivial mB mB rfl mR mR ?_
 refine evl ?_
 repeat refine ⟨sd, ?_⟩
 refine k2 (sq fun _ k3 => rgn 0 ?_)
 repeat refine ⟨sd, ?_⟩
 refine k3 (wps_ret ?_)
 refine retL [] mA mO rfl rfl ?_
 exact mT

theorem all_ok : CallT Tryz.prog 16 [] []
  fun x σ => x = .agg [.u (.s []), .u (.s []), .u (.b true), .u (.b false), .u (.i .i64 (-1))] ∧ σ = [] := by
 refine cof 2 [.cell 0 52] Tryz.func16 Tryz.ntmps16 fun c hnt hc0 => ?_
 refine sq fun _ k1 => rgn 1 ?_
 repeat refine ⟨sd, ?_⟩
 refine k1 (sq fun _ k2 => rgn 0 ?_)
 repeat refine ⟨sd, ?_⟩
 refine k2 (wps_ret ?_)
 refine retL [] mA mO rfl rfl ?_
 exact mT

theorem ssync_ok (W : PgM) (L S : PV) (last synced : Nat) (v g : Sec) (P : List Pend) (hv : SecOK v) : CallT Tryz.prog 19 [.p 0 0] (sto W L S last synced v g P)
  fun r σ => ∃ g' : Sec, g'.Perm v ∧ r = .tup [] ∧ σ = [.cells [.p 1 0, .p 2 0, .p 11 0], .cells [.p 2 0], .cells [.p 7 0, .p 6 0, .u (.i .i64 0), .u (.i .i64 200), .u (.i .u64 0), .h 3, .h 4, .h 5], .map [], .map ((enc W).map sent), .map [], .cells [.p 7 0, .u (.i .i64 0), .u (.i .u64 0), .u (.i .i64 1)], .cells [.u (.i .i64 1000), .u (.i .i64 1000), .h 8, .h 12, .h 13], .map (v.map sent), .dead, .dead, .cells [.p 7 0, .u (.i .i64 802), .u (.i .i64 8), .u (.i .i64 16), .u L, .u S, .u (.i .u64 (last : Int)), .u (.i .u64 (last : Int))]] ++ [.map (g'.map sent), .row 116 1 []] := by
 have hs := wsync_ok L S last synced v g P hv
 unfold wlg logC at hs
 simp only [dskC] at hs
 unfold sto
 refine cof 7 [] Tryz.func19 Tryz.ntmps19 fun c hnt hc0 => ?_
 replace hc0 : c.β0.length = 12 := hc0
 refine rgn 0 ?_
 repeat refine ⟨sd, ?_⟩
 refine callT_atNE [11, 7, 8, 9, 10] [_, _, _, _, _] hs rfl rfl ⟨rfl, rfl, rfl, rfl, rfl, trivial⟩ mB mB (fun _ => rfl) (fun g' hg' => ?_)
 refine fxl ?_
 refine evl ?_
 repeat refine ⟨sd, ?_⟩
 refine retL [some 0, some 1, some 2, some 3, some 4, some 5, some 6, some 7, some 8, some 9, some 10, some 11, some 12, some 13] rfl trivial rfl rfl ?_
 refine ⟨g', hg', ?_⟩
 simp only [go_sem, and_true, true_and, implies_true, reduceIte, Nat.reduceEqDiff, Nat.reduceAdd, Nat.reduceLT, List.cons_append, List.nil_append, logC, dskC]

def opnD (v' : Sec) : List SObj := [.cells [.u (.i .i64 1000), .u (.i .i64 1000), .h 1, .h 11, .h 12], .map (v'.map sent), .dead, .dead]
def opnN (W : PgM) (sg : List Seg) (last : Nat) (g' : Sec) : List SObj := [.cells [.p 0 0, .u (.i .i64 0), .u (.i .u64 0), .u (.i .i64 1)], .map [], .map ((enc W).map sent), .map [], .cells [.p 0 0, .p 4 0, .u (.i .i64 0), .u (.i .i64 200), .u (.i .u64 0), .h 5, .h 6, .h 7], .cells [.p 8 0], .cells [.p 0 0, .u (.i .i64 802), .u (.i .i64 8), .u (.i .i64 16), .u (.fz (sg.map segrow) none), .u (.fz [] (some 0)), .u (.i .u64 (last : Int)), .u (.i .u64 (last : Int))], .map (g'.map sent), .row 116 1 [], .cells [.p 9 0, .p 8 0, .p 10 0]]
theorem opn_app (W : PgM) (sg : List Seg) (last : Nat) (v' g' : Sec) : opn W sg last v' g' = opnD v' ++ opnN W sg last g' := rfl
def A0 : LogS := ⟨[], [], 0, [], []⟩
theorem seg_nil (i : Nat) : SegIs [] i none := by
 refine Or.inl ?_
 rw [segB]; simp [sget]
theorem found_nil : foundL (fun _ => none) 8 = [] := rfl
theorem all_nil : AllOK [] := ⟨by simp, by simp, by simp, by simp⟩
theorem freeI_nil (i : Nat) : ∀ (n : Nat) {s : Sec × List Pend}, s.1 = [] → (freeI i n s).1 = []
 | 0, s, h => h
 | n + 1, s, h => by
  have := freeI_nil i n h
  rw [freeI, free1]
  split <;> simp [this, sdel]
theorem freeU_nil (l : List Seg) : ∀ (n : Nat) {s : Sec × List Pend}, s.1 = [] → (freeU l n s).1 = []
 | 0, s, h => h
 | n + 1, s, h => by
  have := freeU_nil l n h
  rw [freeU]
  split
  ·exact this
  ·exact freeI_nil n 16 this
theorem free_nil : (freeU [] 8 ([], [])).1 = [] := freeU_nil _ _ rfl

theorem fresh_ok (hR : Reads W0 []) : CallT Tryz.prog 5 [] []
  fun r σ => r = .tup [.p 8 0, .p 1 0, .p 0 0] ∧ σ = vwL W0 A0 none (some 0) 0 [] 0 := by
 have hd := disknew_ok
 have ho := sopen_ok [] [] (fun _ => none) [] [] W0 1 rfl rfl SecOK.nil (fun i _ => seg_nil i) (by rw [found_nil]; exact all_nil) rfl rfl (.nil _ _) (by simp)
 simp only [opn_app] at ho
 have hv := vopen_ok W0 [] 0 (.fz [] none) (.fz [] (some 0)) 0 0 [] [] [] hR (by simp) ⟨fun _ => rfl, fun h => absurd rfl h, by simp⟩ (by omega)
 unfold vwL vwm A0
 unfold opnD opnN at ho
 unfold sto at hv
 unfold dsk dskC at hd ho
 simp only [List.map_nil, free_nil, show enc [] = [] from rfl, show bs [] = [] from rfl, List.perm_nil, show lastL [] = 0 from rfl] at *
 refine cof 40 [.tmp 0, .tmp 1, .tmp 2] Tryz.func5 Tryz.ntmps5 fun c hnt hc0 => ?_
 refine sq fun _ k1 => rgn 0 ?_
 repeat refine ⟨sd, ?_⟩
 refine k1 (sq fun _ k2 => rgn 0 ?_)
 repeat refine ⟨sd, ?_⟩
 refine callT_new hd mB ?_
 simp only [go_sem, and_true, true_and, implies_true, reduceIte, Nat.reduceEqDiff, Nat.reduceAdd, Nat.reduceLT, List.cons_append, List.nil_append]
 refine evl ?_
 repeat refine ⟨sd, ?_⟩
 refine k2 (sq fun _ k3 => sq fun _ k4 => rgn 0 ?_)
 repeat refine ⟨sd, ?_⟩
 refine k4 (cd rfl (fun h1 => ?_) (fun h1 => ?_))
 ·exact absurd h1 (by simp)
 ·refine wps_skip (k3 (sq fun _ k5 => rgn 0 ?_))
  repeat refine ⟨sd, ?_⟩
  refine callT_atNE [0, 1, 2, 3] [_, _, _, _] ho rfl rfl ⟨rfl, rfl, rfl, rfl, trivial⟩ mB mB (fun _ => rfl) (fun g' hg' => ?_)
  subst hg'
  refine fxl ?_
  refine evl ?_
  repeat refine ⟨sd, ?_⟩
  refine k5 (sq fun _ k6 => sq fun _ k7 => rgn 0 ?_)
  repeat refine ⟨sd, ?_⟩
  refine k7 (cd rfl (fun h2 => ?_) (fun h2 => ?_))
  ·exact absurd h2 (by simp)
  ·refine wps_skip (k6 (sq fun _ k8 => rgn 0 ?_))
   repeat refine ⟨sd, ?_⟩
   refine callT_atN [13, 9, 8, 5, 6, 7, 4, 0, 1, 11, 12, 10] [_, _, _, _, _, _, _, _, _, _, _, _] (τ := [_, _, _, _, _, _, _, _, _, _, _, _]) hv rfl rfl ⟨rfl, rfl, rfl, rfl, rfl, rfl, rfl, rfl, rfl, rfl, rfl, rfl, trivial⟩ mB mB rfl ?_
   refine fxl ?_
   refine evl ?_
   repeat refine ⟨sd, ?_⟩
   refine k8 (sq fun _ k9 => sq fun _ k10 => rgn 0 ?_)
   repeat refine ⟨sd, ?_⟩
   refine k10 (cd rfl (fun h3 => ?_) (fun h3 => ?_))
   ·exact absurd h3 (by simp)
   ·refine wps_skip (k9 (sq fun _ k11 => rgn 0 ?_))
    repeat refine ⟨sd, ?_⟩
    refine k11 (wps_ret ?_)
    refine retL [some 14, some 13, some 9, some 8, some 5, some 6, some 7, some 4, some 0, some 1, some 11, some 12, some 10] rfl ⟨trivial, trivial, trivial, trivial⟩ rfl rfl ?_
    simp only [go_sem, and_true, true_and, implies_true, reduceIte, Nat.reduceEqDiff, Nat.reduceAdd, Nat.reduceLT, List.cons_append, List.nil_append]
    try rfl
end Go.Proofs.YtefipnajpabfgaaGreatDoor
