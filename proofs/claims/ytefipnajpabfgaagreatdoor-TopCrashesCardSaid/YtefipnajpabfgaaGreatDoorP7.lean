/- Part 7 of the proof: what functions of the program do, and plain facts on what they compute. -/
import Derived.Test.YtefipnajpabfgaaGreatDoorP6
import Derived.Test.YtefipnajpabfgaaGreatDoorP3
set_option linter.all false
set_option maxRecDepth 40000
set_option maxHeartbeats 16000000
set_option linter.unusedSimpArgs false
set_option linter.unusedVariables false
namespace Go.Proofs.YtefipnajpabfgaaGreatDoor
open Go.Nm

/-! ### the segments that are found on a disk -/
/-- what a segment's bytes say -/
def SegIs (v : Sec) (i : Nat) : Option (Nat × List (List UInt8)) → Prop
 | none => NoRec (segB v i 0 16)
 | some x => ∃ tail, segB v i 0 16 = recS x.1 titleS ++ (recBytes x.1 x.2 ++ tail) ∧ NoRec tail ∧ x.1 + x.2.length < 1000000 ∧ ∀ b ∈ x.2, b.length ≤ 32768
abbrev Fnd := Nat × Nat × List (List UInt8)
def foundL (F : Nat → Option (Nat × List (List UInt8))) : Nat → List Fnd
 | 0 => []
 | k + 1 => foundL F k ++ (match F k with | none => [] | some x => [(k, x.1, x.2)])
def frow (f : Fnd) : List PV := [.i .i64 (f.1 : Int), .i .u64 (f.2.1 : Int), .i .u64 (f.2.2.length : Int), .fz ((recList f.2.1 f.2.2).map rrow) none]
theorem frow_ok1 (l : List Fnd) : ∀ y ∈ l.map frow, y.length = 4 := by
 intro y hy
 obtain ⟨x, _, rfl⟩ := List.mem_map.1 hy
 rfl
theorem frow_ok2 (l : List Fnd) : ∀ y ∈ l.map frow, ∀ p ∈ y, PV.one p = true := by
 intro y hy p hp
 obtain ⟨x, _, rfl⟩ := List.mem_map.1 hy
 simp only [frow, List.mem_cons, List.not_mem_nil, or_false] at hp
 rcases hp with rfl | rfl | rfl | rfl <;> rfl
theorem foundL_len (F : Nat → Option (Nat × List (List UInt8))) : ∀ k, (foundL F k).length ≤ k
 | 0 => Nat.le_refl _
 | k + 1 => by
  have := foundL_len F k
  rw [foundL, List.length_append]
  cases F k <;> simp <;> omega
theorem recList_len : ∀ (d : List (List UInt8)) (f : Nat), (recList f d).length = d.length
 | [], f => rfl
 | x :: d, f => by simp [recList, recList_len d]

theorem look_ok (L S : PV) (last synced : Nat) (v g : Sec) (P : List Pend) (F : Nat → Option (Nat × List (List UInt8))) (hv : SecOK v) (hF : ∀ i, i < 8 → SegIs v i (F i)) : CallT Tryz.prog 71 [.p 0 0] (wlg L S last synced v g P)
  fun r σ => r = .u (.fz ((foundL F 8).map frow) none) ∧ σ = wlg L S last synced v g P := by
 obtain ⟨B, hB⟩ : ∃ B, foundL F 8 = B := ⟨_, rfl⟩
 rw [hB]
 have hby := fun i hi => bytes_ok L S last synced v g P i hi hv
 unfold wlg logC dskC at *
 refine cof 57 [.tmp 2] Tryz.func71 Tryz.ntmps71 fun c hnt hc0 => ?_
 refine sq fun _ k1 => rgn 0 ?_
 repeat refine ⟨sd, ?_⟩
 refine k1 (sq fun _ k2 => rgn 0 ?_)
 repeat refine ⟨sd, ?_⟩
 refine k2 (sq fun _ k3 => sq fun _ k4 => rgn 0 ?_)
 repeat refine ⟨sd, ?_⟩
 refine k4 (bk fun _ k5 => ?_)
 refine wps_loop (fun m e σ => ∃ (k : Nat), m = 8 - k ∧ k ≤ 8 ∧ e = [(0, .p 0 0), (3, .h 5), (14, .u (.i .i64 8)), (15, .u (.i .i64 (k : Int)))] ∧ σ = [.cells [.p 1 0, .u (.i .i64 802), .u (.i .i64 8), .u (.i .i64 16), .u L, .u S, .u (.i .u64 (last : Int)), .u (.i .u64 (synced : Int))], .cells [.u (.i .i64 1000), .u (.i .i64 1000), .h 2, .h 3, .h 4], .map (v.map sent), .map (g.map sent), .row 116 1 (P.map prow), .row 171 4 ((foundL F k).map frow)])
  (e0 := [(0, .p 0 0), (3, .h 5), (14, .u (.i .i64 8)), (15, .u (.i .i64 0))]) (σ0 := [.cells [.p 1 0, .u (.i .i64 802), .u (.i .i64 8), .u (.i .i64 16), .u L, .u S, .u (.i .u64 (last : Int)), .u (.i .u64 (synced : Int))], .cells [.u (.i .i64 1000), .u (.i .i64 1000), .h 2, .h 3, .h 4], .map (v.map sent), .map (g.map sent), .row 116 1 (P.map prow), .row 171 4 []])
  ((ent_thaw 171 4 (t := 3) rfl).trans (entL hc0 [some 0, some 1, some 2, some 3, some 4, some 5] rfl rfl mB mB)) ⟨0, rfl, by omega, rfl, rfl⟩ fun KL m e1 σ1 hI hKL => ?_
 obtain ⟨k, rfl, hk, rfl, rfl⟩ := hI
 refine sq fun _ k6 => rgn 0 ?_
 repeat refine ⟨sd, ?_⟩
 refine k6 (sq fun _ k7 => cd rfl (fun h1 => ?_) (fun h1 => ?_))
 ·have hlt : k < 8 := by simp at h1; omega
  have hw1 := wi1 k
  have hsl := segB_len hv k 16 0
  have hs := hF k hlt
  have hfl := foundL_len F k
  have hfn : foundL F (k + 1) = foundL F k ++ (match F k with | none => [] | some x => [(k, x.1, x.2)]) := rfl
  have hr1 := frow_ok1 (foundL F k)
  have hr2 := frow_ok2 (foundL F k)
  refine wps_skip (k7 (sq fun _ k8 => bk fun _ k9 => sq fun _ k10 => rgn 0 ?_))
  repeat refine ⟨sd, ?_⟩
  refine k10 (sq fun _ k11 => ?_)
  rcases hFk : F k with _ | ⟨bse, ds⟩
  rw [hFk] at hs
  rcases (show NoRec _ from hs) with ht | ht
  skip
  ·have hg := rget_short (segB v k 0 16) none ht
   rw [hFk, List.append_nil] at hfn
   refine rgn 0 ?_
   repeat refine ⟨sd, ?_⟩
   refine callT_at [0, 1, 2, 3, 4] [_, _, _, _, _] (hby k hlt) rfl rfl ⟨rfl, rfl, rfl, rfl, rfl, trivial⟩ mB mB rfl mR mR ?_
   refine evl ?_
   repeat refine ⟨sd, ?_⟩
   refine k11 (sq fun _ k12 => rgn 1 ?_)
   repeat refine ⟨sd, ?_⟩
   refine callT_at [] [] hg rfl rfl trivial mB mB rfl mR mR ?_
   refine evl ?_
   repeat refine ⟨sd, ?_⟩
   refine k12 (sq fun _ k13 => sq fun _ k14 => rgn 0 ?_)
   repeat refine ⟨sd, ?_⟩
   refine k14 (cd rfl (fun h2 => ?_) (fun h2 => ?_))
   ·refine wps_exit ?_
    simp only [reduceIte, Nat.reduceEqDiff]
    refine k9 (k8 (rg 0 ?_))
    refine evx hw1 ?_
    repeat refine ⟨sd, ?_⟩
    exact hKL _ _ (8 - (k + 1)) _ [.cells [.p 1 0, .u (.i .i64 802), .u (.i .i64 8), .u (.i .i64 16), .u L, .u S, .u (.i .u64 (last : Int)), .u (.i .u64 (synced : Int))], .cells [.u (.i .i64 1000), .u (.i .i64 1000), .h 2, .h 3, .h 4], .map (v.map sent), .map (g.map sent), .row 116 1 (P.map prow), .row 171 4 ((foundL F (k + 1)).map frow)] (entL hc0 [some 0, some 1, some 2, some 3, some 4, some 5] rfl rfl mB (by rw [hfn]; simp only [go_sem, reduceIte, Nat.reduceEqDiff, Nat.reduceAdd, Nat.reduceLT])) ⟨k + 1, rfl, by omega, rfl, rfl⟩ (by omega)
   ·exact absurd h2 (by simp)
  ·have hg := rget_cut (segB v k 0 16) none ht.1 (by omega) ht.2
   rw [hFk, List.append_nil] at hfn
   refine rgn 0 ?_
   repeat refine ⟨sd, ?_⟩
   refine callT_at [0, 1, 2, 3, 4] [_, _, _, _, _] (hby k hlt) rfl rfl ⟨rfl, rfl, rfl, rfl, rfl, trivial⟩ mB mB rfl mR mR ?_
   refine evl ?_
   repeat refine ⟨sd, ?_⟩
   refine k11 (sq fun _ k15 => rgn 1 ?_)
   repeat refine ⟨sd, ?_⟩
   refine callT_at [] [] hg rfl rfl trivial mB mB rfl mR mR ?_
   refine evl ?_
   repeat refine ⟨sd, ?_⟩
   refine k15 (sq fun _ k16 => sq fun _ k17 => rgn 0 ?_)
   repeat refine ⟨sd, ?_⟩
   refine k17 (cd rfl (fun h2 => ?_) (fun h2 => ?_))
   ·refine wps_exit ?_
    simp only [reduceIte, Nat.reduceEqDiff]
    refine k9 (k8 (rg 0 ?_))
    refine evx hw1 ?_
    repeat refine ⟨sd, ?_⟩
    exact hKL _ _ (8 - (k + 1)) _ [.cells [.p 1 0, .u (.i .i64 802), .u (.i .i64 8), .u (.i .i64 16), .u L, .u S, .u (.i .u64 (last : Int)), .u (.i .u64 (synced : Int))], .cells [.u (.i .i64 1000), .u (.i .i64 1000), .h 2, .h 3, .h 4], .map (v.map sent), .map (g.map sent), .row 116 1 (P.map prow), .row 171 4 ((foundL F (k + 1)).map frow)] (entL hc0 [some 0, some 1, some 2, some 3, some 4, some 5] rfl rfl mB (by rw [hfn]; simp only [go_sem, reduceIte, Nat.reduceEqDiff, Nat.reduceAdd, Nat.reduceLT])) ⟨k + 1, rfl, by omega, rfl, rfl⟩ (by omega)
   ·exact absurd h2 (by simp)
  ·rw [hFk] at hs
   obtain ⟨tail, hseg, htail, hbd, hds⟩ := hs
   simp only at hseg hbd hds
   have hll := congrArg List.length hseg
   simp only [List.length_append] at hll
   have hdl := recBytes_len ds bse
   have hg := rget_ok bse titleS (recBytes bse ds ++ tail) none (by omega) (by decide) (by simp; omega)
   rw [← hseg] at hg
   have hsc := scan_ok bse ds tail (Option.map (fun x => x - (recS bse titleS).length) none) hbd hds (by simp; omega) htail
   have hdrop : (segB v k 0 16).drop (recS bse titleS).length = recBytes bse ds ++ tail := by rw [hseg, List.drop_left]
   have hlen2 : ((recList bse ds).map rrow).length = ds.length := by rw [List.length_map, recList_len]
   have hwd := wrapu_nat (n := ds.length) (by omega)
   rw [hFk] at hfn
   obtain ⟨H, hH⟩ : ∃ H, recS bse titleS = H := ⟨_, rfl⟩
   have hHl : H.length ≤ (segB v k 0 16).length := by rw [← hH]; omega
   have htk : (bs (segB v k 0 16)).take (segB v k 0 16).length = bs (segB v k 0 16) := by rw [← bs_len (segB v k 0 16), List.take_length]
   rw [hH] at hg hsc hdrop
   simp only [titleS] at hg
   refine rgn 0 ?_
   repeat refine ⟨sd, ?_⟩
   refine callT_at [0, 1, 2, 3, 4] [_, _, _, _, _] (hby k hlt) rfl rfl ⟨rfl, rfl, rfl, rfl, rfl, trivial⟩ mB mB rfl mR mR ?_
   refine evl ?_
   repeat refine ⟨sd, ?_⟩
   refine k11 (sq fun _ k18 => rgn 1 ?_)
   repeat refine ⟨sd, ?_⟩
   refine callT_at [] [] hg rfl rfl trivial mB mB rfl mR mR ?_
   refine evl ?_
   repeat refine ⟨sd, ?_⟩
   refine k18 (sq fun _ k19 => sq fun _ k20 => rgn 0 ?_)
   repeat refine ⟨sd, ?_⟩
   refine k20 (cd rfl (fun h2 => ?_) (fun h2 => ?_))
   ·exact absurd h2 (by simp)
   ·refine wps_skip (k19 (sq fun _ k21 => dr 0 [0, 0, 3, 0, 8, 31, 63, 127, 127, 255, 1023] mixed ?_))
    refine evx3 htk @bs_drop hdrop ?_
    repeat refine ⟨sd, ?_⟩
    refine callE_at [] [] hsc rfl rfl trivial mB mB rfl mR mR ?_
    refine evx3 htk @bs_drop hdrop ?_
    repeat refine ⟨sd, ?_⟩
    refine k21 (rg 1 ?_)
    refine evx2 hlen2 hwd ?_
    repeat refine ⟨sd, ?_⟩
    refine k9 (k8 (rg 0 ?_))
    refine evx hw1 ?_
    repeat refine ⟨sd, ?_⟩
    exact hKL _ _ (8 - (k + 1)) _ [.cells [.p 1 0, .u (.i .i64 802), .u (.i .i64 8), .u (.i .i64 16), .u L, .u S, .u (.i .u64 (last : Int)), .u (.i .u64 (synced : Int))], .cells [.u (.i .i64 1000), .u (.i .i64 1000), .h 2, .h 3, .h 4], .map (v.map sent), .map (g.map sent), .row 116 1 (P.map prow), .row 171 4 ((foundL F (k + 1)).map frow)] (entL hc0 [some 0, some 1, some 2, some 3, some 4, some 7] rfl rfl mB (by rw [hfn]; simp only [go_sem, reduceIte, Nat.reduceEqDiff, Nat.reduceAdd, Nat.reduceLT, List.map_append, frow])) ⟨k + 1, rfl, by omega, rfl, rfl⟩ (by omega)
 ·have hk8 : k = 8 := by simp at h1; omega
  subst hk8
  rw [hB]
  refine wps_exit ?_
  simp only [reduceIte, Nat.reduceEqDiff]
  refine k5 (k3 (sq fun _ k22 => rgn 0 ?_))
  repeat refine ⟨sd, ?_⟩
  refine k22 ?_
  refine wps_ent (e' := [(2, .u (.fz (B.map frow) none))]) (σ' := [.cells [.p 1 0, .u (.i .i64 802), .u (.i .i64 8), .u (.i .i64 16), .u L, .u S, .u (.i .u64 (last : Int)), .u (.i .u64 (synced : Int))], .cells [.u (.i .i64 1000), .u (.i .i64 1000), .h 2, .h 3, .h 4], .map (v.map sent), .map (g.map sent), .row 116 1 (P.map prow)]) ((entF 5 rfl (e' := [(2, .u (.fz (B.map frow) none))]) mB rfl).trans (entL hc0 [some 0, some 1, some 2, some 3, some 4] rfl rfl mB mB)) ?_
  refine wps_ret ?_
  refine retL [some 0, some 1, some 2, some 3, some 4] rfl ⟨trivial, trivial⟩ rfl rfl ?_
  exact mT

/-! ### the order of texts -/
theorem blt_irrefl : ∀ a : List UInt8, Op.bytesLess a a = false
 | [] => rfl
 | x :: a => by simp [Op.bytesLess, blt_irrefl a]
theorem blt_asymm : ∀ {a b : List UInt8}, Op.bytesLess a b = true → Op.bytesLess b a = false
 | [], [], h => by simp [Op.bytesLess] at h
 | [], y :: b, _ => rfl
 | x :: a, [], h => by simp [Op.bytesLess] at h
 | x :: a, y :: b, h => by
  simp only [Op.bytesLess, Bool.or_eq_true, Bool.and_eq_true, decide_eq_true_eq, beq_iff_eq] at h
  simp only [Op.bytesLess, Bool.or_eq_false_iff, Bool.and_eq_false_iff, decide_eq_false_iff_not]
  rcases h with h | ⟨rfl, h⟩
  ·have : ¬ y < x := fun h2 => absurd (UInt8.lt_trans h h2) (UInt8.lt_irrefl x)
   refine ⟨this, .inl ?_⟩
   simp only [beq_eq_false_iff_ne, ne_eq]
   intro he; subst he; exact UInt8.lt_irrefl _ h
  ·exact ⟨UInt8.lt_irrefl _, .inr (blt_asymm h)⟩
theorem blt_trans : ∀ {a b c : List UInt8}, Op.bytesLess a b = true → Op.bytesLess b c = true → Op.bytesLess a c = true
 | _, _, [], _, h => by simp [Op.bytesLess] at h
 | _, [], _ :: _, h, _ => by simp [Op.bytesLess] at h
 | [], _ :: _, _ :: _, _, _ => rfl
 | x :: a, y :: b, z :: c, h1, h2 => by
  simp only [Op.bytesLess, Bool.or_eq_true, Bool.and_eq_true, decide_eq_true_eq, beq_iff_eq] at h1 h2 ⊢
  rcases h1 with h1 | ⟨rfl, h1⟩
  ·rcases h2 with h2 | ⟨rfl, h2⟩
   ·exact .inl (UInt8.lt_trans h1 h2)
   ·exact .inl h1
  ·rcases h2 with h2 | ⟨rfl, h2⟩
   ·exact .inl h2
   ·exact .inr ⟨rfl, blt_trans h1 h2⟩
theorem blt_conn : ∀ {a b : List UInt8}, Op.bytesLess a b = false → Op.bytesLess b a = false → a = b
 | [], [], _, _ => rfl
 | [], y :: b, h, _ => by simp [Op.bytesLess] at h
 | x :: a, [], _, h => by simp [Op.bytesLess] at h
 | x :: a, y :: b, h1, h2 => by
  simp only [Op.bytesLess, Bool.or_eq_false_iff, decide_eq_false_iff_not] at h1 h2
  have hxy : x = y := UInt8.le_antisymm (by simpa using h2.1) (by simpa using h1.1)
  subst hxy
  simp only [beq_self_eq_true, Bool.true_and] at h1 h2
  rw [blt_conn h1.2 h2.2]
/-- not behind: a ≤ b as !(b < a) -/
theorem blt_le_trans {a b c : List UInt8} (h1 : Op.bytesLess b a = false) (h2 : Op.bytesLess b c = true) : Op.bytesLess a c = true := by
 cases h : Op.bytesLess a c with
 | true => rfl
 | false =>
  cases h3 : Op.bytesLess c a with
  | true => rw [blt_trans h2 h3] at h1; exact absurd h1 (by simp)
  | false => rw [blt_conn h h3] at h1; rw [h2] at h1; exact absurd h1 (by simp)
theorem blt_lt_le {a b c : List UInt8} (h1 : Op.bytesLess a b = true) (h2 : Op.bytesLess c b = false) : Op.bytesLess a c = true := by
 cases h : Op.bytesLess a c with
 | true => rfl
 | false =>
  cases h3 : Op.bytesLess c a with
  | true => rw [blt_trans h3 h1] at h2; exact absurd h2 (by simp)
  | false => rw [blt_conn h h3] at h1; rw [h1] at h2; exact absurd h2 (by simp)

/-! ### pages -/
abbrev Cel := List UInt8 × List UInt8
def crow (c : Cel) : List PV := [.s c.1, .s c.2]
theorem crow_ok1 (l : List Cel) : ∀ y ∈ l.map crow, y.length = 2 := by
 intro y hy
 obtain ⟨x, _, rfl⟩ := List.mem_map.1 hy
 rfl
theorem crow_ok2 (l : List Cel) : ∀ y ∈ l.map crow, ∀ p ∈ y, PV.one p = true := by
 intro y hy p hp
 obtain ⟨x, _, rfl⟩ := List.mem_map.1 hy
 simp only [crow, List.mem_cons, List.not_mem_nil, or_false] at hp
 rcases hp with rfl | rfl <;> rfl
theorem crow_at {l : List Cel} {i : Nat} (h : i < l.length) : (l.map crow).getD i [] = [.s (l.getD i ([], [])).1, .s (l.getD i ([], [])).2] := by
 rw [List.getD_eq_getElem?_getD, List.getElem?_map, List.getElem?_eq_getElem h, List.getD_eq_getElem?_getD, List.getElem?_eq_getElem h]; rfl
def cpS (c : Cel) : List UInt8 := tput c.1 ++ tput c.2
def cellsS (l : List Cel) : List UInt8 := l.flatMap cpS
theorem cellsS_app (a b : List Cel) : cellsS (a ++ b) = cellsS a ++ cellsS b := by simp [cellsS]
theorem cellsS_one (c : Cel) : cellsS [c] = cpS c := by simp [cellsS]
theorem cellsS_take (l : List Cel) (k : Nat) : (cellsS (l.take k)).length ≤ (cellsS l).length := by
 conv => rhs; rw [← List.take_append_drop k l, cellsS_app]
 simp
theorem cellsS_mem {l : List Cel} {c : Cel} (h : c ∈ l) : (cpS c).length ≤ (cellsS l).length := by
 obtain ⟨a, b, rfl⟩ := List.append_of_mem h
 rw [show a ++ c :: b = a ++ ([c] ++ b) by simp, cellsS_app, cellsS_app, cellsS_one]; simp; omega
theorem cpS_len (c : Cel) : c.1.length + c.2.length + 2 ≤ (cpS c).length := by
 have h1 := vput_pos c.1.length
 have h2 := vput_pos c.2.length
 simp [cpS, tput]; omega
structure Pg where
 leaf : Bool
 next : Nat
 cells : List Cel
def pgA (p : Pg) (q : Option Nat) : SV := .agg [.u (.b p.leaf), .u (.i .i64 (p.next : Int)), .u (.fz (p.cells.map crow) q)]
def pageB (p : Pg) : List UInt8 := (if p.leaf then 1 else 0) :: (vput p.next ++ vput p.cells.length ++ cellsS p.cells)
def pageS (p : Pg) : List UInt8 := sealS (pageB p)
theorem page_len (p : Pg) : (pageS p).length = 1 + (vput p.next).length + (vput p.cells.length).length + (cellsS p.cells).length + 4 := by
 simp [pageS, pageB, seal_len]; omega

theorem ptext_ok (s : List UInt8) (hs : s.length ≤ 1000000) : CallT Tryz.prog 170 [.u (.s s)] [] fun r σ => r = .u (.i .i64 ((tput s).length : Int)) ∧ σ = [] := by
 have h1 := vput_10 s.length (by omega)
 have hsz := size_ok s.length (by omega)
 have hwu := wrapu_nat (n := s.length) (by omega)
 have hw : IntKind.i64.wrap (((vput s.length).length : Int) + (s.length : Int)) = ((tput s).length : Int) := by rw [wrap64 (by omega) (by omega)]; simp [tput]
 refine cof 10 [.tmp 2] Tryz.func170 Tryz.ntmps170 fun c hnt hc0 => ?_
 refine sq fun _ k1 => rgn 0 ?_
 repeat refine ⟨sd, ?_⟩
 refine k1 (sq fun _ k2 => rg 0 ?_)
 refine evx2 hwu hw ?_
 repeat refine ⟨sd, ?_⟩
 refine callT_at [] [] hsz rfl rfl trivial mB mB rfl mR mR ?_
 refine evx2 hwu hw ?_
 repeat refine ⟨sd, ?_⟩
 refine k2 (wps_ret ?_)
 refine retL [] rfl ⟨trivial, trivial⟩ rfl rfl ?_
 exact mT

theorem pbytes_ok (l : List Cel) (q : Option Nat) (hl : (cellsS l).length ≤ 1000000) : CallT Tryz.prog 162 [.u (.fz (l.map crow) q)] [] fun r σ => r = .u (.i .i64 ((cellsS l).length : Int)) ∧ σ = [] := by
 have hll : 2 * l.length ≤ (cellsS l).length := by
  clear hl
  induction l with
  | nil => simp
  | cons c l ih =>
   have := cpS_len c
   rw [show c :: l = [c] ++ l from rfl, cellsS_app, cellsS_one]; simp; omega
 refine cof 23 [.tmp 2] Tryz.func162 Tryz.ntmps162 fun c hnt hc0 => ?_
 refine sq fun _ k1 => rgn 0 ?_
 repeat refine ⟨sd, ?_⟩
 refine k1 (sq fun _ k2 => rgn 0 ?_)
 repeat refine ⟨sd, ?_⟩
 refine k2 (sq fun _ k3 => sq fun _ k4 => rgn 0 ?_)
 repeat refine ⟨sd, ?_⟩
 refine k4 (bk fun _ k5 => ?_)
 refine wps_loop (fun k e σ => ∃ i : Nat, k = l.length - i ∧ i ≤ l.length ∧ e = [(3, .u (.i .i64 ((cellsS (l.take i)).length : Int))), (6, .u (.fz (l.map crow) q)), (7, .u (.i .i64 (l.length : Int))), (8, .u (.i .i64 (i : Int)))] ∧ σ = [])
  (e0 := [(3, .u (.i .i64 0)), (6, .u (.fz (l.map crow) q)), (7, .u (.i .i64 (l.length : Int))), (8, .u (.i .i64 0))]) (σ0 := []) (entL hc0 [] rfl rfl mB mB) ⟨0, rfl, Nat.zero_le _, rfl, rfl⟩ fun KL k e1 σ1 hI hKL => ?_
 obtain ⟨i, rfl, hi, rfl, rfl⟩ := hI
 refine sq fun _ k6 => rgn 0 ?_
 repeat refine ⟨sd, ?_⟩
 refine k6 (sq fun _ k7 => cd rfl (fun h1 => ?_) (fun h1 => ?_))
 ·have hlt : i < l.length := by simpa using h1
  have hel := crow_at hlt
  obtain ⟨c0, hcd⟩ : ∃ c0, l.getD i ([], []) = c0 := ⟨_, rfl⟩
  have hmem : c0 ∈ l := by rw [← hcd]; exact getD_mem hlt
  have hcm := cellsS_mem hmem
  have hcl := cpS_len c0
  have hts := gtake_succ (d := (([], []) : Cel)) hlt
  have htk := cellsS_take l (i + 1)
  rw [hcd] at hel hts
  rw [hts, cellsS_app, cellsS_one] at htk
  have hx1 := ptext_ok c0.1 (by omega)
  have hx2 := ptext_ok c0.2 (by omega)
  have hlen : (cpS c0).length = (tput c0.1).length + (tput c0.2).length := by simp [cpS]
  rw [List.length_append] at htk
  have hw1 := wi1 i
  have hw2 : IntKind.i64.wrap (((tput c0.1).length : Int) + ((tput c0.2).length : Int)) = ((cpS c0).length : Int) := by rw [wrap64 (by omega) (by omega)]; omega
  have hw3 : IntKind.i64.wrap (((cellsS (l.take i)).length : Int) + ((cpS c0).length : Int)) = ((cellsS (l.take (i + 1))).length : Int) := by
   rw [wrap64 (by omega) (by omega), hts, cellsS_app, cellsS_one, List.length_append]; omega
  refine wps_skip (k7 (sq fun _ k8 => bk fun _ k9 => sq fun _ k10 => rg 1 ?_))
  refine evx hel ?_
  repeat refine ⟨sd, ?_⟩
  refine k10 (dr 0 [0, 0, 2, 6, 0, 16, 62, 126, 255, 511] mixed ?_)
  refine evx2 hw2 hw3 ?_
  repeat refine ⟨sd, ?_⟩
  refine callE_at [] [] hx1 rfl rfl trivial mB mB rfl mR mR ?_
  refine evx2 hw2 hw3 ?_
  repeat refine ⟨sd, ?_⟩
  refine callE_at [] [] hx2 rfl rfl trivial mB mB rfl mR mR ?_
  refine evx2 hw2 hw3 ?_
  repeat refine ⟨sd, ?_⟩
  refine k9 (k8 (rg 0 ?_))
  refine evx hw1 ?_
  repeat refine ⟨sd, ?_⟩
  exact hKL _ _ (l.length - (i + 1)) _ _ (entL hc0 [] rfl rfl mB mB) ⟨i + 1, rfl, by omega, rfl, rfl⟩ (by omega)
 ·have hil : i = l.length := by simp at h1; omega
  subst hil
  rw [List.take_length]
  refine wps_exit ?_
  simp only [reduceIte, Nat.reduceEqDiff]
  refine k5 (k3 (sq fun _ k11 => rgn 0 ?_))
  repeat refine ⟨sd, ?_⟩
  refine k11 (wps_ret ?_)
  refine retL [] rfl ⟨trivial, trivial⟩ rfl rfl ?_
  exact mT

theorem psize_ok (p : Pg) (q : Option Nat) (hn : p.next ≤ 1000000) (hl : (cellsS p.cells).length ≤ 1000000) : CallT Tryz.prog 148 [pgA p q] [] fun r σ => r = .u (.i .i64 ((pageS p).length : Int)) ∧ σ = [] := by
 have hll : p.cells.length ≤ (cellsS p.cells).length := by
  clear hl
  induction p.cells with
  | nil => simp
  | cons c l ih =>
   have := cpS_len c
   rw [show c :: l = [c] ++ l from rfl, cellsS_app, cellsS_one]; simp; omega
 have h1 := vput_10 p.next (by omega)
 have h2 := vput_10 p.cells.length (by omega)
 have hpl := page_len p
 have hs1 := size_ok p.next (by omega)
 have hs2 := size_ok p.cells.length (by omega)
 have hb := pbytes_ok p.cells q hl
 have hm : max (p.next : Int) 0 = (p.next : Int) := by omega
 have hwu := wrapu_nat (n := p.next) (by omega)
 have hwu2 := wrapu_nat (n := p.cells.length) (by omega)
 have hw1 : IntKind.i64.wrap (1 + ((vput p.next).length : Int)) = ((1 + (vput p.next).length : Nat) : Int) := by rw [wrap64 (by omega) (by omega)]; omega
 have hw2 : IntKind.i64.wrap (((1 + (vput p.next).length : Nat) : Int) + ((vput p.cells.length).length : Int)) = ((1 + (vput p.next).length + (vput p.cells.length).length : Nat) : Int) := by rw [wrap64 (by omega) (by omega)]; omega
 have hw3 : IntKind.i64.wrap (((1 + (vput p.next).length + (vput p.cells.length).length : Nat) : Int) + ((cellsS p.cells).length : Int)) = ((1 + (vput p.next).length + (vput p.cells.length).length + (cellsS p.cells).length : Nat) : Int) := by rw [wrap64 (by omega) (by omega)]; omega
 have hw4 : IntKind.i64.wrap (((1 + (vput p.next).length + (vput p.cells.length).length + (cellsS p.cells).length : Nat) : Int) + 4) = ((pageS p).length : Int) := by rw [wrap64 (by omega) (by omega)]; omega
 unfold pgA
 refine cof 20 [.tmp 2] Tryz.func148 Tryz.ntmps148 fun c hnt hc0 => ?_
 refine sq fun _ k1 => rgn 1 ?_
 repeat refine ⟨sd, ?_⟩
 refine k1 (sq fun _ k2 => dr 0 [0, 1, 3, 7, 15, 31, 0, 64, 192, 448, 991, 2047, 0, 4096, 14303, 32767, 65535, 131071] mixed ?_)
 simp only [↓kOps_app, ↓evOps_nil, ↓evOps_cons, go_sem, Int.reduceAdd, Int.reduceBEq, Int.reduceEq, Int.reduceLE, Int.reduceLT, Int.reduceNe, Int.reduceSub, Int.reduceToNat, Nat.reduceAdd, Nat.reduceBEq, Nat.reduceEqDiff, Nat.reduceLT, Nat.reduceLeDiff, Nat.reduceMul, Nat.reduceSub, reduceCtorEq, reduceIte, hm, hwu, hwu2, hw1, hw2, hw3, hw4]
 repeat refine ⟨sd, ?_⟩
 refine callE_at [] [] hs1 rfl rfl trivial mB mB rfl mR mR ?_
 simp only [↓kOps_app, ↓evOps_nil, ↓evOps_cons, go_sem, Int.reduceAdd, Int.reduceBEq, Int.reduceEq, Int.reduceLE, Int.reduceLT, Int.reduceNe, Int.reduceSub, Int.reduceToNat, Nat.reduceAdd, Nat.reduceBEq, Nat.reduceEqDiff, Nat.reduceLT, Nat.reduceLeDiff, Nat.reduceMul, Nat.reduceSub, reduceCtorEq, reduceIte, hm, hwu, hwu2, hw1, hw2, hw3, hw4]
 repeat refine ⟨sd, ?_⟩
 refine callE_at [] [] hs2 rfl rfl trivial mB mB rfl mR mR ?_
 simp only [↓kOps_app, ↓evOps_nil, ↓evOps_cons, go_sem, Int.reduceAdd, Int.reduceBEq, Int.reduceEq, Int.reduceLE, Int.reduceLT, Int.reduceNe, Int.reduceSub, Int.reduceToNat, Nat.reduceAdd, Nat.reduceBEq, Nat.reduceEqDiff, Nat.reduceLT, Nat.reduceLeDiff, Nat.reduceMul, Nat.reduceSub, reduceCtorEq, reduceIte, hm, hwu, hwu2, hw1, hw2, hw3, hw4]
 repeat refine ⟨sd, ?_⟩
 refine callE_at [] [] hb rfl rfl trivial mB mB rfl mR mR ?_
 simp only [↓kOps_app, ↓evOps_nil, ↓evOps_cons, go_sem, Int.reduceAdd, Int.reduceBEq, Int.reduceEq, Int.reduceLE, Int.reduceLT, Int.reduceNe, Int.reduceSub, Int.reduceToNat, Nat.reduceAdd, Nat.reduceBEq, Nat.reduceEqDiff, Nat.reduceLT, Nat.reduceLeDiff, Nat.reduceMul, Nat.reduceSub, reduceCtorEq, reduceIte, hm, hwu, hwu2, hw1, hw2, hw3, hw4]
 repeat refine ⟨sd, ?_⟩
 refine k2 (wps_ret ?_)
 refine retL [] rfl ⟨trivial, trivial⟩ rfl rfl ?_
 exact mT

def great (c : Cel) : Bool := decide (480 < c.1.length + c.2.length)
theorem great_ok (c : Cel) (h1 : c.1.length ≤ 1000000) (h2 : c.2.length ≤ 1000000) : CallT Tryz.prog 151 [.agg [.u (.s c.1), .u (.s c.2)]] [] fun r σ => r = .u (.b (great c)) ∧ σ = [] := by
 have hw : IntKind.i64.wrap ((c.1.length : Int) + (c.2.length : Int)) = ((c.1.length + c.2.length : Nat) : Int) := by rw [wrap64 (by omega) (by omega)]; omega
 have hg : decide ((480 : Int) < ((c.1.length + c.2.length : Nat) : Int)) = great c := by
  rw [great]; congr 1; simp only [eq_iff_iff]; omega
 refine cof 11 [.tmp 2] Tryz.func151 Tryz.ntmps151 fun c hnt hc0 => ?_
 refine sq fun _ k1 => rgn 1 ?_
 repeat refine ⟨sd, ?_⟩
 refine k1 (sq fun _ k2 => rg 0 ?_)
 refine evx2 hw hg ?_
 repeat refine ⟨sd, ?_⟩
 refine k2 (wps_ret ?_)
 refine retL [] rfl ⟨trivial, trivial⟩ rfl rfl ?_
 exact mT

def Sorted : List Cel → Prop
 | [] => True
 | [_] => True
 | a :: b :: r => Op.bytesLess a.1 b.1 = true ∧ Sorted (b :: r)
theorem Sorted.at : ∀ {l : List Cel}, Sorted l → ∀ i, i + 1 < l.length → Op.bytesLess (l.getD i ([], [])).1 (l.getD (i + 1) ([], [])).1 = true
 | [], _, i, h => by simp at h
 | [_], _, i, h => by simp at h
 | a :: b :: r, hs, 0, _ => hs.1
 | a :: b :: r, hs, i + 1, h => Sorted.at (l := b :: r) hs.2 i (by simpa using h)
structure PgOK (p : Pg) : Prop where
 next : p.next ≤ 256
 cell : ∀ c ∈ p.cells, c.1.length + c.2.length ≤ 480
 sort : Sorted p.cells
 size : (pageS p).length ≤ 2048

theorem pcheck_ok (p : Pg) (q : Option Nat) (hp : PgOK p) : CallT Tryz.prog 137 [pgA p q] [] fun r σ => r = .u (.i .i64 0) ∧ σ = [] := by
 obtain ⟨leaf, next, l⟩ := p
 obtain ⟨hn, hc, hs, hz⟩ := hp
 simp only at hn hc hs hz
 have hpl := page_len ⟨leaf, next, l⟩
 simp only at hpl
 have hsz := psize_ok ⟨leaf, next, l⟩ q (by simp only; omega) (by simp only; omega)
 have hll : l.length ≤ (cellsS l).length := by
  clear hc hs hz hpl hsz
  induction l with
  | nil => simp
  | cons c l ih =>
   have := cpS_len c
   rw [show c :: l = [c] ++ l from rfl, cellsS_app, cellsS_one]; simp; omega
 have hgt : decide ((2048 : Int) < ((pageS ⟨leaf, next, l⟩).length : Int)) = false := by simp; omega
 have hn1 : decide ((next : Int) < 0) = false := by simp
 have hn2 : decide ((256 : Int) < (next : Int)) = false := by simp; omega
 unfold pgA at hsz ⊢
 simp only at hsz ⊢
 refine cof 43 [.tmp 2] Tryz.func137 Tryz.ntmps137 fun c hnt hc0 => ?_
 refine sq fun _ k1 => rgn 1 ?_
 repeat refine ⟨sd, ?_⟩
 refine k1 (sq fun _ k2 => sq fun _ k3 => rg 0 ?_)
 refine evx2 hn1 hn2 ?_
 repeat refine ⟨sd, ?_⟩
 refine k3 (cd rfl (fun h1 => ?_) (fun h1 => ?_))
 ·exact absurd h1 (by simp)
 ·refine wps_skip (k2 (sq fun _ k4 => sq fun _ k5 => rgn 0 ?_))
  repeat refine ⟨sd, ?_⟩
  refine k5 (bk fun _ k6 => ?_)
  refine wps_loop (fun k e σ => ∃ i : Nat, k = l.length - i ∧ i ≤ l.length ∧ e = [(1, .p 0 0), (14, .u (.fz (l.map crow) q)), (15, .u (.i .i64 (l.length : Int))), (16, .u (.i .i64 (i : Int)))] ∧ σ = [.cells [.u (.b leaf), .u (.i .i64 (next : Int)), .u (.fz (l.map crow) q)]])
   (e0 := [(1, .p 0 0), (14, .u (.fz (l.map crow) q)), (15, .u (.i .i64 (l.length : Int))), (16, .u (.i .i64 0))]) (σ0 := [.cells [.u (.b leaf), .u (.i .i64 (next : Int)), .u (.fz (l.map crow) q)]]) (entL hc0 [some 0] rfl rfl mB mB) ⟨0, rfl, Nat.zero_le _, rfl, rfl⟩ fun KL k e1 σ1 hI hKL => ?_
  obtain ⟨i, rfl, hi, rfl, rfl⟩ := hI
  refine sq fun _ k7 => rgn 0 ?_
  repeat refine ⟨sd, ?_⟩
  refine k7 (sq fun _ k8 => cd rfl (fun h2 => ?_) (fun h2 => ?_))
  ·have hlt : i < l.length := by simpa using h2
   have hel := crow_at hlt
   obtain ⟨c0, hcd⟩ : ∃ c0, l.getD i ([], []) = c0 := ⟨_, rfl⟩
   have hmem : c0 ∈ l := by rw [← hcd]; exact getD_mem hlt
   have hcm := hc c0 hmem
   rw [hcd] at hel
   have hgr := great_ok c0 (by omega) (by omega)
   have hgf : great c0 = false := by rw [great]; simp; omega
   rw [hgf] at hgr
   have hw1 := wi1 i
   refine wps_skip (k8 (sq fun _ k9 => bk fun _ k10 => sq fun _ k11 => rg 1 ?_))
   refine evx hel ?_
   repeat refine ⟨sd, ?_⟩
   refine k11 (bk fun _ k12 => sq fun _ k13 => rgn 0 ?_)
   repeat refine ⟨sd, ?_⟩
   refine callT_at [] [] hgr rfl rfl trivial mB mB rfl mR mR ?_
   refine evl ?_
   repeat refine ⟨sd, ?_⟩
   refine k13 (cd rfl (fun h3 => ?_) (fun h3 => ?_))
   ·exact absurd h3 (by simp)
   ·refine sq fun _ k14 => ?_
    rcases i with _ | j
    ·have hwm : IntKind.i64.wrap (-1) = -1 := by decide
     refine dr 0 [0, 1, 3, 7, 15, 7, 39, 127, 255, 511, 7, 1031, 4095, 8191, 16383] mixed ?_
     refine evx2 hwm hel ?_
     repeat refine ⟨sd, ?_⟩
     refine k14 (cd rfl (fun h4 => ?_) (fun h4 => ?_))
     ·exact absurd h4 (by simp)
     ·refine wps_skip (k12 (k10 (k9 ?_)))
      refine wps_keep [1, 14, 15, 16] mK ?_
      refine rg 0 ?_
      refine evx hw1 ?_
      repeat refine ⟨sd, ?_⟩
      exact hKL _ _ (l.length - 1) _ _ (entL hc0 [some 0] rfl rfl mB mB) ⟨1, rfl, by omega, rfl, rfl⟩ (by omega)
    ·have hel2 := crow_at (l := l) (i := j) (by omega)
     have hso := hs.at j (by omega)
     rw [hcd] at hso
     obtain ⟨c1, hc1⟩ : ∃ c1, l.getD j ([], []) = c1 := ⟨_, rfl⟩
     rw [hc1] at hel2 hso
     have hw0 : IntKind.i64.wrap (((j + 1 : Nat) : Int) - 1) = (j : Int) := (wrap64 (by omega) (by omega)).trans (by omega)
     have hj0 : decide ((0 : Int) < ((j + 1 : Nat) : Int)) = true := decide_eq_true (by omega)
     refine dr 0 [0, 1, 3, 7, 15, 7, 39, 127, 255, 511, 7, 1031, 4095, 8191, 16383] mixed ?_
     refine evx4 hw0 hel2 hso hj0 ?_
     repeat refine ⟨sd, ?_⟩
     refine k14 (cd rfl (fun h4 => ?_) (fun h4 => ?_))
     ·exact absurd h4 (by simp)
     ·refine wps_skip (k12 (k10 (k9 ?_)))
      refine wps_keep [1, 14, 15, 16] mK ?_
      refine rg 0 ?_
      refine evx hw1 ?_
      repeat refine ⟨sd, ?_⟩
      exact hKL _ _ (l.length - (j + 1 + 1)) _ _ (entL hc0 [some 0] rfl rfl mB mB) ⟨j + 1 + 1, rfl, by omega, rfl, rfl⟩ (by omega)
  ·skip
   refine wps_exit ?_
   simp only [reduceIte, Nat.reduceEqDiff]
   refine k6 (k4 (sq fun _ k15 => sq fun _ k16 => rg 0 ?_))
   refine evx hgt ?_
   repeat refine ⟨sd, ?_⟩
   refine callT_at [] [] hsz rfl rfl trivial mB mB rfl mR mR ?_
   refine evx hgt ?_
   repeat refine ⟨sd, ?_⟩
   refine k16 (cd rfl (fun h5 => ?_) (fun h5 => ?_))
   ·exact absurd h5 (by simp)
   ·refine wps_skip (k15 (sq fun _ k17 => rgn 0 ?_))
    repeat refine ⟨sd, ?_⟩
    refine k17 (wps_ret ?_)
    refine retL [] rfl ⟨trivial, trivial⟩ rfl rfl ?_
    exact mT

theorem cells_len (l : List Cel) : 2 * l.length ≤ (cellsS l).length := by
 induction l with
 | nil => simp
 | cons c l ih =>
  have := cpS_len c
  rw [show c :: l = [c] ++ l from rfl, cellsS_app, cellsS_one]; simp; omega
theorem tputs2 (a b : List UInt8) : tputs [a, b] = cpS (a, b) := by simp [tputs, cpS]

/-! ### a page as bytes -/
theorem pgbytes_ok (p : Pg) (q : Option Nat) (hp : PgOK p) : CallT Tryz.prog 107 [pgA p q] [] fun r σ => r = .tup [.h 0, .u (.i .i64 0)] ∧ σ = [] ++ [.row 5 1 (bs (pageS p))] := by
 have hck := pcheck_ok p q hp
 obtain ⟨leaf, next, l⟩ := p
 obtain ⟨hn, hc, hs, hz⟩ := hp
 simp only at hn hc hs hz
 have hpl := page_len ⟨leaf, next, l⟩
 simp only at hpl
 have hll := cells_len l
 have hw := wnew_ok
 have hfl := wflag_ok [] leaf (by simp)
 rw [List.nil_append] at hfl
 have h10 := vput_10 next (by omega)
 have h11 := vput_10 l.length (by omega)
 have hnu := wnum_ok [if leaf then 1 else 0] [next, l.length] (some 2) (by simp; omega) (by simp)
 simp only [wrC, wrN, List.map_cons, List.map_nil, urow, vputs, List.flatMap_cons, List.flatMap_nil, List.append_nil] at hw hfl hnu
 have hwu := wrapu_nat (n := next) (by omega)
 have hwu2 := wrapu_nat (n := l.length) (by omega)
 have hpb : pageB ⟨leaf, next, l⟩ = (if leaf then 1 else 0) :: (vput next ++ (vput l.length ++ cellsS l)) := by simp [pageB]
 have hby := wbytes_ok (pageB ⟨leaf, next, l⟩) (by simp [hpb]; omega)
 have hse := seal_ok (pageB ⟨leaf, next, l⟩) none (by simp [hpb]; omega)
 simp only [wrC] at hby
 unfold pgA at *
 simp only at *
 refine cof 53 [.tmp 2, .tmp 3] Tryz.func107 Tryz.ntmps107 fun c hnt hc0 => ?_
 refine sq fun _ k1 => rgn 1 ?_
 repeat refine ⟨sd, ?_⟩
 refine k1 (sq fun _ k2 => sq fun _ k3 => rgn 0 ?_)
 repeat refine ⟨sd, ?_⟩
 refine callT_at [] [] hck rfl rfl trivial mB mB rfl mR mR ?_
 refine evl ?_
 repeat refine ⟨sd, ?_⟩
 refine k3 (sq fun _ k4 => rgn 0 ?_)
 repeat refine ⟨sd, ?_⟩
 refine k4 (cd rfl (fun h1 => ?_) (fun h1 => ?_))
 ·exact absurd h1 (by simp)
 ·refine wps_skip (k2 (sq fun _ k5 => rgn 0 ?_))
  repeat refine ⟨sd, ?_⟩
  refine callT_new hw mB ?_
  refine rtl ?_
  refine evl ?_
  repeat refine ⟨sd, ?_⟩
  refine k5 (sq fun _ k6 => rgn 0 ?_)
  repeat refine ⟨sd, ?_⟩
  refine callT_atN [1, 2] [_, _] hfl rfl rfl ⟨rfl, rfl, trivial⟩ mB mB rfl ?_
  refine fxl ?_
  refine evl ?_
  repeat refine ⟨sd, ?_⟩
  refine k6 (sq fun _ k7 => ?_)
  refine wps_keep [1, 5] mK ?_
  refine rg 0 ?_
  refine evx2 hwu hwu2 ?_
  repeat refine ⟨sd, ?_⟩
  refine callT_atN [1, 3] [_, _] hnu rfl rfl ⟨rfl, rfl, trivial⟩ mB mB rfl ?_
  refine fxl ?_
  refine evx2 hwu hwu2 ?_
  repeat refine ⟨sd, ?_⟩
  refine k7 (sq fun _ k8 => sq fun _ k9 => rgn 0 ?_)
  repeat refine ⟨sd, ?_⟩
  refine k9 (bk fun _ k10 => ?_)
  refine wps_loop (fun k e σ => ∃ i : Nat, k = l.length - i ∧ i ≤ l.length ∧ e = [(5, .p 0 0), (31, .u (.fz (l.map crow) q)), (32, .u (.i .i64 (l.length : Int))), (33, .u (.i .i64 (i : Int)))] ∧ σ = [.cells [.h 1, .u (.i .i64 0)], .row 5 1 (bs ((if leaf then 1 else 0) :: (vput next ++ (vput l.length ++ cellsS (l.take i)))))])
   (e0 := [(5, .p 0 0), (31, .u (.fz (l.map crow) q)), (32, .u (.i .i64 (l.length : Int))), (33, .u (.i .i64 0))]) (σ0 := [.cells [.h 1, .u (.i .i64 0)], .row 5 1 (bs ((if leaf then 1 else 0) :: (vput next ++ vput l.length)))]) (entL2 hc0 [some 1, some 4] rfl rfl mB mB) ⟨0, rfl, Nat.zero_le _, rfl, by simp [cellsS]⟩ fun KL k e1 σ1 hI hKL => ?_
  obtain ⟨i, rfl, hi, rfl, rfl⟩ := hI
  refine sq fun _ k11 => rgn 0 ?_
  repeat refine ⟨sd, ?_⟩
  refine k11 (sq fun _ k12 => cd rfl (fun h2 => ?_) (fun h2 => ?_))
  ·have hlt : i < l.length := by simpa using h2
   have hel := crow_at hlt
   obtain ⟨c0, hcd⟩ : ∃ c0, l.getD i ([], []) = c0 := ⟨_, rfl⟩
   have hmem : c0 ∈ l := by rw [← hcd]; exact getD_mem hlt
   have hcm := hc c0 hmem
   have hcl := cellsS_mem hmem
   have hts := gtake_succ (d := (([], []) : Cel)) hlt
   have htk := cellsS_take l i
   rw [hcd] at hel hts
   have hfin : ((if leaf then 1 else 0) :: (vput next ++ (vput l.length ++ cellsS (l.take i)))) ++ cpS c0 = ((if leaf then 1 else 0) :: (vput next ++ (vput l.length ++ cellsS (l.take (i + 1))))) := by rw [hts, cellsS_app, cellsS_one]; simp
   have hx := wtext_ok ((if leaf then 1 else 0) :: (vput next ++ (vput l.length ++ cellsS (l.take i)))) [c0.1, c0.2] (some 2) (by simp) (by simp; omega) (by rw [tputs2, show ((c0.1, c0.2) : Cel) = c0 from rfl]; simp; omega)
   rw [tputs2, show ((c0.1, c0.2) : Cel) = c0 from rfl, hfin] at hx
   simp only [wrC, wrN, List.map_cons, List.map_nil, trow] at hx
   have hw1 := wi1 i
   refine wps_skip (k12 (sq fun _ k13 => bk fun _ k14 => sq fun _ k15 => rg 1 ?_))
   refine evx hel ?_
   repeat refine ⟨sd, ?_⟩
   refine k15 (rgn 0 ?_)
   repeat refine ⟨sd, ?_⟩
   refine callT_atN [0, 1] [_, _] hx rfl rfl ⟨rfl, rfl, trivial⟩ mB mB rfl ?_
   refine fxl ?_
   refine evl ?_
   repeat refine ⟨sd, ?_⟩
   refine k14 (k13 (rg 0 ?_))
   refine evx hw1 ?_
   repeat refine ⟨sd, ?_⟩
   exact hKL _ _ (l.length - (i + 1)) _ _ (entL2 hc0 [some 0, some 3] rfl rfl mB mB) ⟨i + 1, rfl, by omega, rfl, rfl⟩ (by omega)
  ·have hil : i = l.length := by simp at h2; omega
   subst hil
   rw [List.take_length, ← hpb]
   refine wps_exit ?_
   simp only [reduceIte, Nat.reduceEqDiff]
   refine k10 (k8 (sq fun _ k16 => rgn 0 ?_))
   repeat refine ⟨sd, ?_⟩
   refine callT_at [0, 1] [_, _] hby rfl rfl ⟨rfl, rfl, trivial⟩ mB mB rfl mR mR ?_
   refine evl ?_
   repeat refine ⟨sd, ?_⟩
   refine k16 (sq fun _ k17 => rgn 0 ?_)
   repeat refine ⟨sd, ?_⟩
   refine callT_new hse mB ?_
   refine rtl ?_
   refine evl ?_
   repeat refine ⟨sd, ?_⟩
   refine k17 (wps_ret ?_)
   refine retL [some 2] mA mO rfl rfl ?_
   simp only [go_sem, and_true, true_and, implies_true, reduceIte, Nat.reduceEqDiff, Nat.reduceAdd, Nat.reduceLT, List.nil_append, pageS]

/-! ### bytes as a page -/
theorem pgof_ok (p : Pg) (q : Option Nat) (hp : PgOK p) : CallT Tryz.prog 139 [.u (.fz (bs (pageS p)) q)] [] fun r σ => r = .tup [pgA p none, .u (.i .i64 0)] ∧ σ = [] := by
 have hck := pcheck_ok p none hp
 obtain ⟨leaf, next, l⟩ := p
 obtain ⟨hn, hc, hs, hz⟩ := hp
 simp only at hn hc hs hz
 have hpl := page_len ⟨leaf, next, l⟩
 simp only at hpl
 have hll := cells_len l
 have h10 := vput_10 next (by omega)
 have h11 := vput_10 l.length (by omega)
 have hpb : pageB ⟨leaf, next, l⟩ = (if leaf then 1 else 0) :: (vput next ++ (vput l.length ++ cellsS l)) := by simp [pageB]
 have hop := open_ok (pageB ⟨leaf, next, l⟩) q (by simp [hpb]; omega)
 have hrd := read_ok (pageB ⟨leaf, next, l⟩) none (by simp [hpb]; omega)
 rw [hpb] at hrd
 have hfl := rflag_ok leaf (vput next ++ (vput l.length ++ cellsS l)) (by simp; omega)
 have hcn := rcount_ok next (vput l.length ++ cellsS l) 256 hn (by omega) (by simp; omega)
 have hcl := rcount_ok l.length (cellsS l) 2048 (by omega) (by omega) (by omega)
 have hen := rend_ok
 rw [show ((256 : Nat) : Int) = 256 from rfl] at hcn
 rw [show ((2048 : Nat) : Int) = 2048 from rfl] at hcl
 simp only [rdC] at hrd hfl hcn hcl hen
 unfold pgA at *
 simp only at *
 unfold pageS
 refine cof 51 [.cell 2 165, .tmp 3] Tryz.func139 Tryz.ntmps139 fun c hnt hc0 => ?_
 refine sq fun _ k1 => rgn 1 ?_
 repeat refine ⟨sd, ?_⟩
 refine k1 (sq fun _ k2 => rgn 0 ?_)
 repeat refine ⟨sd, ?_⟩
 refine callT_at [] [] hop rfl rfl trivial mB mB rfl mR mR ?_
 refine evl ?_
 repeat refine ⟨sd, ?_⟩
 refine k2 (sq fun _ k3 => sq fun _ k4 => rgn 0 ?_)
 repeat refine ⟨sd, ?_⟩
 refine k4 (cd rfl (fun h1 => ?_) (fun h1 => ?_))
 ·exact absurd h1 (by simp)
 ·refine wps_skip (k3 (sq fun _ k5 => rg 0 ?_))
  refine evx hpb ?_
  repeat refine ⟨sd, ?_⟩
  refine callT_new hrd mB ?_
  refine rtl ?_
  refine evx hpb ?_
  repeat refine ⟨sd, ?_⟩
  refine k5 (sq fun _ k6 => rgn 0 ?_)
  repeat refine ⟨sd, ?_⟩
  refine k6 (sq fun _ k7 => ?_)
  refine wps_keep [2, 6, 7] mK ?_
  refine rgn 1 ?_
  repeat refine ⟨sd, ?_⟩
  refine callT_at [1] [_] hfl rfl rfl ⟨rfl, trivial⟩ mB mB rfl mR mR ?_
  refine evl ?_
  repeat refine ⟨sd, ?_⟩
  refine callT_at [1] [_] hcn rfl rfl ⟨rfl, trivial⟩ mB mB rfl mR mR ?_
  refine evl ?_
  repeat refine ⟨sd, ?_⟩
  refine k7 (sq fun _ k8 => sq fun _ k9 => rgn 0 ?_)
  repeat refine ⟨sd, ?_⟩
  refine callT_at [1] [_] hcl rfl rfl ⟨rfl, trivial⟩ mB mB rfl mR mR ?_
  refine evl ?_
  repeat refine ⟨sd, ?_⟩
  refine k9 (bk fun _ k10 => ?_)
  refine wps_loop (fun k e σ => ∃ i : Nat, k = l.length - i ∧ i ≤ l.length ∧ e = [(2, .p 0 0), (6, .p 1 0), (7, .bm 78 [.p 1 0]), (8, .p 2 0), (27, .u (.i .i64 (l.length : Int))), (28, .u (.i .i64 (i : Int)))] ∧ σ = [.cells [.u (.b false), .u (.i .i64 0), .u (.fz [] (some 0))], .cells [.u (.fz (bs (cellsS (l.drop i))) none), .u (.i .i64 0)], .cells [.u (.b leaf), .u (.i .i64 (next : Int)), .h 3], .row 100 2 ((l.take i).map crow)])
   (e0 := [(2, .p 0 0), (6, .p 1 0), (7, .bm 78 [.p 1 0]), (8, .p 2 0), (27, .u (.i .i64 (l.length : Int))), (28, .u (.i .i64 0))]) (σ0 := [.cells [.u (.b false), .u (.i .i64 0), .u (.fz [] (some 0))], .cells [.u (.fz (bs (cellsS l)) none), .u (.i .i64 0)], .cells [.u (.b leaf), .u (.i .i64 (next : Int)), .h 3], .row 100 2 []]) ((ent_thawC 2 2 100 2 rfl rfl).trans (entL hc0 [some 0, some 1, some 2, some 3] rfl rfl mB (by simp only [go_sem, reduceIte, Nat.reduceEqDiff, List.cons_append, List.nil_append]))) ⟨0, rfl, Nat.zero_le _, rfl, rfl⟩ fun KL k e1 σ1 hI hKL => ?_
  obtain ⟨i, rfl, hi, rfl, rfl⟩ := hI
  refine sq fun _ k11 => rgn 0 ?_
  repeat refine ⟨sd, ?_⟩
  refine k11 (sq fun _ k12 => cd rfl (fun h2 => ?_) (fun h2 => ?_))
  ·have hlt : i < l.length := by simpa using h2
   obtain ⟨c0, hcd⟩ : ∃ c0, l.getD i ([], []) = c0 := ⟨_, rfl⟩
   have hmem : c0 ∈ l := by rw [← hcd]; exact getD_mem hlt
   have hcm := hc c0 hmem
   have hts := gtake_succ (d := (([], []) : Cel)) hlt
   have hdr : l.drop i = c0 :: l.drop (i + 1) := by
    rw [List.drop_eq_getElem_cons hlt, ← hcd, List.getD_eq_getElem?_getD, List.getElem?_eq_getElem hlt]; rfl
   rw [hcd] at hts
   have hcd2 : cellsS (l.drop i) = tput c0.1 ++ (tput c0.2 ++ cellsS (l.drop (i + 1))) := by rw [hdr]; simp [cellsS, cpS]
   have hdl : (cellsS (l.drop i)).length ≤ (cellsS l).length := by
    conv => rhs; rw [← List.take_append_drop i l, cellsS_app]
    simp
   have hdl2 := congrArg List.length hcd2
   simp only [List.length_append] at hdl2
   have hx1 := rtext_ok c0.1 (tput c0.2 ++ cellsS (l.drop (i + 1))) (by omega) (by simp; omega)
   have hx2 := rtext_ok c0.2 (cellsS (l.drop (i + 1))) (by omega) (by omega)
   simp only [rdC] at hx1 hx2
   have hw1 := wi1 i
   have hr1 := crow_ok1 (l.take i)
   have hr2 := crow_ok2 (l.take i)
   refine wps_skip (k12 (sq fun _ k13 => bk fun _ k14 => dr 1 [0, 1, 0, 4, 0, 28, 60, 124, 255, 511, 1023] mixed ?_))
   refine evx hcd2 ?_
   repeat refine ⟨sd, ?_⟩
   refine callE_at [1] [_] hx1 rfl rfl ⟨rfl, trivial⟩ mB mB rfl mR mR ?_
   refine evx hcd2 ?_
   repeat refine ⟨sd, ?_⟩
   refine callE_at [1] [_] hx2 rfl rfl ⟨rfl, trivial⟩ mB mB rfl mR mR ?_
   refine evx hcd2 ?_
   repeat refine ⟨sd, ?_⟩
   refine k14 (k13 (rg 0 ?_))
   refine evx hw1 ?_
   repeat refine ⟨sd, ?_⟩
   exact hKL _ _ (l.length - (i + 1)) _ [.cells [.u (.b false), .u (.i .i64 0), .u (.fz [] (some 0))], .cells [.u (.fz (bs (cellsS (l.drop (i + 1)))) none), .u (.i .i64 0)], .cells [.u (.b leaf), .u (.i .i64 (next : Int)), .h 3], .row 100 2 ((l.take (i + 1)).map crow)] (entL hc0 [some 0, some 1, some 2, some 4] rfl rfl mB (by rw [hts, List.map_append]; simp only [go_sem, reduceIte, Nat.reduceEqDiff, Nat.reduceAdd, Nat.reduceLT, List.map_cons, List.map_nil, crow])) ⟨i + 1, rfl, by omega, rfl, rfl⟩ (by omega)
  ·have hil : i = l.length := by simp at h2; omega
   subst hil
   rw [List.take_length, List.drop_length, show cellsS [] = [] from rfl]
   refine wps_exit ?_
   simp only [reduceIte, Nat.reduceEqDiff]
   refine k10 (k8 (sq fun _ k15 => sq fun _ k16 => ?_))
   refine wps_ent (e' := [(2, .p 0 0), (6, .p 1 0), (8, .p 2 0)]) (entF 3 rfl mB rfl) ?_
   refine rgn 0 ?_
   repeat refine ⟨sd, ?_⟩
   refine callT_at [1] [_] hen rfl rfl ⟨rfl, trivial⟩ mB mB rfl mR mR ?_
   refine evl ?_
   repeat refine ⟨sd, ?_⟩
   refine callT_at [] [] hck rfl rfl trivial mB mB rfl mR mR ?_
   refine evl ?_
   repeat refine ⟨sd, ?_⟩
   refine k16 (cd rfl (fun h3 => ?_) (fun h3 => ?_))
   ·exact absurd h3 (by simp)
   ·refine wps_skip (k15 (sq fun _ k17 => rgn 0 ?_))
    repeat refine ⟨sd, ?_⟩
    refine k17 (wps_ret ?_)
    refine retL [] mA mO rfl rfl ?_
    exact mT
end Go.Proofs.YtefipnajpabfgaaGreatDoor
