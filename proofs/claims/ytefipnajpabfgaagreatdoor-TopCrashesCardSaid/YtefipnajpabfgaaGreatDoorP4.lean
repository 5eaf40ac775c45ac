/- Part 4 of the proof: what functions of the program do, and plain facts on what they compute. -/
import Derived.Test.YtefipnajpabfgaaGreatDoorP3
import Derived.Test.YtefipnajpabfgaaGreatDoorL7
set_option linter.all false
set_option maxRecDepth 40000
set_option maxHeartbeats 16000000
set_option linter.unusedSimpArgs false
set_option linter.unusedVariables false
namespace Go.Proofs.YtefipnajpabfgaaGreatDoor
open Go.Nm

/-! ### records -/
def fieldS (n : Nat) (b : List UInt8) : List UInt8 := vput n ++ tput b
def recS (n : Nat) (b : List UInt8) : List UInt8 := be4 (sealS (fieldS n b)).length ++ sealS (fieldS n b)
theorem tput_len (s : List UInt8) (h : s.length < 18446744073709551616) : (tput s).length ≤ s.length + 10 := by
 have := vput_10 s.length h
 simp [tput]; omega
theorem field_len (n : Nat) (b : List UInt8) (hn : n < 18446744073709551616) (hb : b.length ≤ 40000) : (fieldS n b).length ≤ b.length + 20 := by
 have h1 := vput_10 n hn
 have h2 := tput_len b (by omega)
 simp [fieldS]; omega
theorem rec_len (n : Nat) (b : List UInt8) : (recS n b).length = (fieldS n b).length + 8 := by
 simp [recS, be4_len, seal_len]; omega

theorem fields_ok (n : Nat) (b : List UInt8) (hn : n < 18446744073709551616) (hb : b.length ≤ 40000) : CallT Tryz.prog 132 [.agg [.u (.i .u64 (n : Int)), .u (.s b)]] [] fun r σ => r = .u (.fz (bs (fieldS n b)) none) ∧ σ = [] := by
 have hw := wnew_ok
 have h1 := vput_10 n hn
 have h2 := tput_len b (by omega)
 have hnu := wnum_ok [] [n] (some 1) (by simpa using hn) (by simp)
 have htx := wtext_ok (vput n) [b] (some 1) (by simp) (by simp; omega) (by simp [tputs]; omega)
 have hby := wbytes_ok (vput n ++ tput b) (by simp; omega)
 simp only [List.map_cons, List.map_nil, urow, trow, vputs, tputs, List.flatMap_cons, List.flatMap_nil, List.append_nil] at hnu htx
 simp only [List.nil_append] at hnu
 simp only [wrC, wrN] at hw hnu htx hby
 refine cof 23 [.tmp 2] Tryz.func132 Tryz.ntmps132 fun c hnt hc0 => ?_
 refine sq fun _ k1 => rgn 1 ?_
 repeat refine ⟨sd, ?_⟩
 refine k1 (sq fun _ k2 => rgn 0 ?_)
 repeat refine ⟨sd, ?_⟩
 refine callT_new hw mB ?_
 refine rtl ?_
 refine evl ?_
 repeat refine ⟨sd, ?_⟩
 refine k2 (sq fun _ k3 => rgn 0 ?_)
 repeat refine ⟨sd, ?_⟩
 refine callT_atN [1, 2] [_, _] hnu rfl rfl ⟨rfl, rfl, trivial⟩ mB mB rfl ?_
 refine fxl ?_
 refine evl ?_
 repeat refine ⟨sd, ?_⟩
 refine k3 (sq fun _ k4 => rgn 0 ?_)
 repeat refine ⟨sd, ?_⟩
 refine callT_atN [1, 3] [_, _] htx rfl rfl ⟨rfl, rfl, trivial⟩ mB mB rfl ?_
 refine fxl ?_
 refine evl ?_
 repeat refine ⟨sd, ?_⟩
 refine k4 (sq fun _ k5 => rgn 0 ?_)
 repeat refine ⟨sd, ?_⟩
 refine callT_at [1, 4] [_, _] hby rfl rfl ⟨rfl, rfl, trivial⟩ mB mB rfl mR mR ?_
 refine evl ?_
 repeat refine ⟨sd, ?_⟩
 refine k5 (sq fun _ k6 => rgn 0 ?_)
 repeat refine ⟨sd, ?_⟩
 refine k6 (wps_ret ?_)
 refine retL [] rfl ⟨trivial, trivial⟩ rfl rfl ?_
 simp only [go_sem, and_true, true_and, implies_true, reduceIte, Nat.reduceEqDiff, Nat.reduceAdd, Nat.reduceLT, fieldS]

theorem rput_ok (n : Nat) (b : List UInt8) (hn : n < 18446744073709551616) (hb : b.length ≤ 32768) : CallT Tryz.prog 95 [.agg [.u (.i .u64 (n : Int)), .u (.s b)]] [] fun r σ => r = .tup [.h 0, .u (.i .i64 0)] ∧ σ = [] ++ [.row 5 1 (bs (recS n b))] := by
 have hf := fields_ok n b hn (by omega)
 have hfl := field_len n b hn (by omega)
 have hs := seal_ok (fieldS n b) none (by omega)
 have hsl := seal_len (fieldS n b)
 have hwu := wrapu_nat (n := (sealS (fieldS n b)).length) (by omega)
 have hp := nput4_ok [] (some 0) (sealS (fieldS n b)).length (by simp) (by omega)
 simp only [bs_nil, List.nil_append] at hp
 refine cof 24 [.tmp 2, .tmp 3] Tryz.func95 Tryz.ntmps95 fun c hnt hc0 => ?_
 refine sq fun _ k1 => rgn 1 ?_
 repeat refine ⟨sd, ?_⟩
 refine k1 (sq fun _ k2 => sq fun _ k3 => rgn 0 ?_)
 repeat refine ⟨sd, ?_⟩
 refine k3 (cd rfl (fun h1 => ?_) (fun h1 => ?_))
 ·exact absurd h1 (by simp; omega)
 ·refine wps_skip (k2 (sq fun _ k4 => rgn 0 ?_))
  repeat refine ⟨sd, ?_⟩
  refine callT_at [] [] hf rfl rfl trivial mB mB rfl mR mR ?_
  refine evl ?_
  repeat refine ⟨sd, ?_⟩
  refine callT_new hs mB ?_
  refine rtl ?_
  refine evl ?_
  repeat refine ⟨sd, ?_⟩
  refine k4 (sq fun _ k5 => rg 0 ?_)
  refine evx hwu ?_
  repeat refine ⟨sd, ?_⟩
  refine callT_new hp mB ?_
  refine rtl ?_
  refine evx hwu ?_
  repeat refine ⟨sd, ?_⟩
  refine k5 (sq fun _ k6 => ?_)
  have hb4 := be4_len (sealS (fieldS n b)).length
  refine rg 1 ?_
  refine evx2 hb4 @bs_app ?_
  repeat refine ⟨sd, ?_⟩
  refine k6 (wps_ret ?_)
  refine retL [some 3] mA mO rfl rfl ?_
  simp only [go_sem, and_true, true_and, implies_true, reduceIte, Nat.reduceEqDiff, Nat.reduceAdd, Nat.reduceLT, List.nil_append, recS]

theorem rget_short (l : List UInt8) (q : Option Nat) (hl : l.length < 4) : CallT Tryz.prog 113 [.u (.fz (bs l) q)] [] fun r σ => r = .tup [.agg [.u (.i .u64 0), .u (.s [])], .u (.i .i64 0), .u (.b false)] ∧ σ = [] := by
 have hg := nget_short l q 4 (by decide) (by decide) hl
 refine cof 64 [.cell 2 127, .tmp 3, .tmp 4] Tryz.func113 Tryz.ntmps113 fun c hnt hc0 => ?_
 refine sq fun _ k1 => rgn 1 ?_
 repeat refine ⟨sd, ?_⟩
 refine k1 (sq fun _ k2 => rgn 0 ?_)
 repeat refine ⟨sd, ?_⟩
 refine callT_at [] [] hg rfl rfl trivial mB mB rfl mR mR ?_
 refine evl ?_
 repeat refine ⟨sd, ?_⟩
 refine k2 (sq fun _ k3 => sq fun _ k4 => rgn 0 ?_)
 repeat refine ⟨sd, ?_⟩
 refine k4 (cd rfl (fun h1 => ?_) (fun h1 => ?_))
 ·refine sq fun _ k5 => rgn 0 ?_
  repeat refine ⟨sd, ?_⟩
  refine k5 (wps_ret ?_)
  refine retL [] mA mO rfl rfl ?_
  exact mT
 ·exact absurd h1 (by simp)

theorem rget_cut (l : List UInt8) (q : Option Nat) (h4 : 4 ≤ l.length) (hl : l.length ≤ 1000000) (hc : l.length < 4 + unbe (l.take 4)) : CallT Tryz.prog 113 [.u (.fz (bs l) q)] [] fun r σ => r = .tup [.agg [.u (.i .u64 0), .u (.s [])], .u (.i .i64 0), .u (.b false)] ∧ σ = [] := by
 have hg := nget_ok l q 4 (by decide) (by decide) h4 hl
 have hdl : (l.drop 4).length = l.length - 4 := List.length_drop
 have hwu := wrapu_nat (n := l.length - 4) (by omega)
 have hlt : decide (((l.length - 4 : Nat) : Int) < (unbe (l.take 4) : Int)) = true := by simp; omega
 refine cof 64 [.cell 2 127, .tmp 3, .tmp 4] Tryz.func113 Tryz.ntmps113 fun c hnt hc0 => ?_
 refine sq fun _ k1 => rgn 1 ?_
 repeat refine ⟨sd, ?_⟩
 refine k1 (sq fun _ k2 => rgn 0 ?_)
 repeat refine ⟨sd, ?_⟩
 refine callT_at [] [] hg rfl rfl trivial mB mB rfl mR mR ?_
 refine evl ?_
 repeat refine ⟨sd, ?_⟩
 refine k2 (sq fun _ k3 => sq fun _ k4 => rg 0 ?_)
 refine evx3 hdl hwu hlt ?_
 repeat refine ⟨sd, ?_⟩
 refine k4 (cd rfl (fun h1 => ?_) (fun h1 => ?_))
 ·refine sq fun _ k5 => rgn 0 ?_
  repeat refine ⟨sd, ?_⟩
  refine k5 (wps_ret ?_)
  refine retL [] mA mO rfl rfl ?_
  exact mT
 ·exact absurd h1 (by simp)

theorem rget_ok (n : Nat) (b rest : List UInt8) (q : Option Nat) (hn : n < 18446744073709551616) (hb : b.length ≤ 32768) (hl : rest.length ≤ 900000) : CallT Tryz.prog 113 [.u (.fz (bs (recS n b ++ rest)) q)] []
  fun r σ => r = .tup [.agg [.u (.i .u64 (n : Int)), .u (.s b)], .u (.i .i64 ((recS n b).length : Int)), .u (.b true)] ∧ σ = [] := by
 have hfl := field_len n b hn (by omega)
 have hsl := seal_len (fieldS n b)
 have hrl := rec_len n b
 obtain ⟨m, hm⟩ : ∃ m, (sealS (fieldS n b)).length = m := ⟨_, rfl⟩
 rw [hm] at hsl
 have htk : (recS n b ++ rest).take 4 = be4 m := by rw [recS, hm]; rfl
 have hdr : (recS n b ++ rest).drop 4 = sealS (fieldS n b) ++ rest := by rw [recS, hm]; rfl
 have hg := nget_ok (recS n b ++ rest) q 4 (by decide) (by decide) (by simp; omega) (by simp; omega)
 rw [htk, unbe_be4 (by omega), hdr] at hg
 have hll : (sealS (fieldS n b) ++ rest).length = m + rest.length := by simp [hm]
 have hwu := wrapu_nat (n := m + rest.length) (by omega)
 have hlt : decide (((m + rest.length : Nat) : Int) < (m : Int)) = false := by simp; omega
 have htm : (sealS (fieldS n b) ++ rest).take m = sealS (fieldS n b) := by rw [List.take_left' hm]
 have ho := open_ok (fieldS n b) none (by omega)
 have hrd := read_ok (fieldS n b) none (by omega)
 have htl := tput_len b (by omega)
 have hnu := rnum_ok n (tput b) hn (by omega)
 have htx := rtext_ok b [] (by omega) (by simp)
 have hen := rend_ok
 rw [List.append_nil] at htx
 have hwi : IntKind.i64.wrap (m : Int) = m := wrap64 (by omega) (by omega)
 have hw4 : IntKind.i64.wrap (4 + (m : Int)) = ((recS n b).length : Int) := by rw [wrap64 (by omega) (by omega)]; omega
 have hbl : decide ((32768 : Int) < (b.length : Int)) = false := by simp; omega
 rw [show vput n ++ tput b = fieldS n b from rfl] at hnu
 simp only [rdC] at hrd hnu htx hen
 refine cof 64 [.cell 2 127, .tmp 3, .tmp 4] Tryz.func113 Tryz.ntmps113 fun c hnt hc0 => ?_
 refine sq fun _ k1 => rgn 1 ?_
 repeat refine ⟨sd, ?_⟩
 refine k1 (sq fun _ k2 => rgn 0 ?_)
 repeat refine ⟨sd, ?_⟩
 refine callT_at [] [] hg rfl rfl trivial mB mB rfl mR mR ?_
 refine evl ?_
 repeat refine ⟨sd, ?_⟩
 refine k2 (sq fun _ k3 => sq fun _ k4 => rg 0 ?_)
 refine evx3 hll hwu hlt ?_
 repeat refine ⟨sd, ?_⟩
 refine k4 (cd rfl (fun h1 => ?_) (fun h1 => ?_))
 ·exact absurd h1 (by simp)
 ·refine wps_skip (k3 (sq fun _ k5 => rg 0 ?_))
  refine evx3 hll @bs_take htm ?_
  repeat refine ⟨sd, ?_⟩
  refine callT_at [] [] ho rfl rfl trivial mB mB rfl mR mR ?_
  refine evx3 hll @bs_take htm ?_
  repeat refine ⟨sd, ?_⟩
  refine k5 (sq fun _ k6 => sq fun _ k7 => rgn 0 ?_)
  repeat refine ⟨sd, ?_⟩
  refine k7 (cd rfl (fun h2 => ?_) (fun h2 => ?_))
  ·exact absurd h2 (by simp)
  ·refine wps_skip (k6 (sq fun _ k8 => rgn 0 ?_))
   repeat refine ⟨sd, ?_⟩
   refine callT_new hrd mB ?_
   refine rtl ?_
   refine evl ?_
   repeat refine ⟨sd, ?_⟩
   refine k8 (sq fun _ k9 => rgn 0 ?_)
   repeat refine ⟨sd, ?_⟩
   refine k9 (sq fun _ k10 => rgn 1 ?_)
   repeat refine ⟨sd, ?_⟩
   refine callT_at [1] [_] hnu rfl rfl ⟨rfl, trivial⟩ mB mB rfl mR mR ?_
   refine evl ?_
   repeat refine ⟨sd, ?_⟩
   refine callT_at [1] [_] htx rfl rfl ⟨rfl, trivial⟩ mB mB rfl mR mR ?_
   refine evl ?_
   repeat refine ⟨sd, ?_⟩
   refine k10 (sq fun _ k11 => sq fun _ k12 => rg 0 ?_)
   refine evx hbl ?_
   repeat refine ⟨sd, ?_⟩
   refine callT_at [1] [_] hen rfl rfl ⟨rfl, trivial⟩ mB mB rfl mR mR ?_
   refine evx hbl ?_
   repeat refine ⟨sd, ?_⟩
   refine k12 (cd rfl (fun h3 => ?_) (fun h3 => ?_))
   ·exact absurd h3 (by simp)
   ·refine wps_skip (k11 (sq fun _ k13 => rg 0 ?_))
    refine evx2 hwi hw4 ?_
    repeat refine ⟨sd, ?_⟩
    refine k13 (wps_ret ?_)
    refine retL [] mA mO rfl rfl ?_
    exact mT

/-! ### records one behind the other -/
def rrow (r : Nat × List UInt8) : List PV := [.i .u64 (r.1 : Int), .s r.2]
def recList (first : Nat) : List (List UInt8) → List (Nat × List UInt8)
 | [] => []
 | b :: r => (first, b) :: recList (first + 1) r
def recBytes (first : Nat) : List (List UInt8) → List UInt8
 | [] => []
 | b :: r => recS first b ++ recBytes (first + 1) r
theorem recList_app (b : List UInt8) : ∀ (d : List (List UInt8)) (first : Nat), recList first (d ++ [b]) = recList first d ++ [(first + d.length, b)]
 | [], first => by simp [recList]
 | x :: d, first => by
  simp only [List.cons_append, recList, recList_app b d (first + 1), List.length_cons]
  rw [show first + 1 + d.length = first + (d.length + 1) by omega]
theorem recBytes_app (b : List UInt8) : ∀ (d : List (List UInt8)) (first : Nat), recBytes first (d ++ [b]) = recBytes first d ++ recS (first + d.length) b
 | [], first => by simp [recBytes]
 | x :: d, first => by
  simp only [List.cons_append, recBytes, recBytes_app b d (first + 1), List.length_cons, List.append_assoc]
  rw [show first + 1 + d.length = first + (d.length + 1) by omega]
theorem recBytes_split : ∀ (a b : List (List UInt8)) (first : Nat), recBytes first (a ++ b) = recBytes first a ++ recBytes (first + a.length) b
 | [], b, first => by simp [recBytes]
 | x :: a, b, first => by
  simp only [List.cons_append, recBytes, recBytes_split a b (first + 1), List.length_cons, List.append_assoc]
  rw [show first + 1 + a.length = first + (a.length + 1) by omega]
theorem recBytes_len : ∀ (d : List (List UInt8)) (first : Nat), 8 * d.length ≤ (recBytes first d).length
 | [], first => by simp
 | b :: d, first => by
  have h1 := rec_len first b
  have h2 := recBytes_len d (first + 1)
  simp only [recBytes, List.length_append, List.length_cons]; omega
theorem rrow_ok (rs : List (Nat × List UInt8)) : (∀ y ∈ rs.map rrow, y.length = 2) ∧ ∀ y ∈ rs.map rrow, ∀ p ∈ y, PV.one p = true := by
 constructor
 ·intro y hy
  obtain ⟨x, _, rfl⟩ := List.mem_map.1 hy
  rfl
 ·intro y hy p hp
  obtain ⟨x, _, rfl⟩ := List.mem_map.1 hy
  simp only [rrow, List.mem_cons, List.not_mem_nil, or_false] at hp
  rcases hp with rfl | rfl <;> rfl

/-- no whole record stands there -/
def NoRec (t : List UInt8) : Prop := t.length < 4 ∨ (4 ≤ t.length ∧ t.length < 4 + unbe (t.take 4))

theorem keep_ok (rs : List (Nat × List UInt8)) (a n : Nat) (r : Nat × List UInt8) (ha : a + n ≤ 1000000) (hr : rs.length ≤ 1000000) : CallT Tryz.prog 141 [.agg [.u (.i .u64 (r.1 : Int)), .u (.s r.2)], .u (.i .i64 (n : Int)), .p 0 0, .p 1 0] [.cells [.h 2], .cells [.u (.i .i64 (a : Int))], .row 127 2 (rs.map rrow)]
  fun x σ => x = .tup [] ∧ σ = [.cells [.h 3], .cells [.u (.i .i64 ((a + n : Nat) : Int))], .dead] ++ [.row 127 2 ((rs ++ [r]).map rrow)] := by
 have hw : IntKind.i64.wrap ((a : Int) + (n : Int)) = ((a + n : Nat) : Int) := by rw [wrap64 (by omega) (by omega)]; omega
 obtain ⟨h1, h2⟩ := rrow_ok rs
 refine cof 13 [] Tryz.func141 Tryz.ntmps141 fun c hnt hc0 => ?_
 refine sq fun _ k1 => rgn 1 ?_
 repeat refine ⟨sd, ?_⟩
 refine k1 (dr 1 [0, 0, 2, 7, 0, 0, 48, 15, 255] mixed ?_)
 refine evx hw ?_
 repeat refine ⟨sd, ?_⟩
 refine retL [some 0, some 1, some 2, some 4] rfl trivial rfl rfl ?_
 simp only [go_sem, and_true, true_and, implies_true, reduceIte, Nat.reduceEqDiff, Nat.reduceAdd, Nat.reduceLT, List.cons_append, List.nil_append, List.map_append, rrow]

theorem scan_ok (first : Nat) (ds : List (List UInt8)) (tail : List UInt8) (q : Option Nat) (hf : first + ds.length < 1000000) (hd : ∀ b ∈ ds, b.length ≤ 32768) (hl : (recBytes first ds ++ tail).length ≤ 900000) (ht : NoRec tail) : CallT Tryz.prog 114 [.u (.fz (bs (recBytes first ds ++ tail)) q), .u (.i .u64 (first : Int))] []
  fun r σ => r = .tup [.u (.fz ((recList first ds).map rrow) none), .u (.i .i64 ((recBytes first ds).length : Int))] ∧ σ = [] := by
 obtain ⟨S, hS⟩ : ∃ S, recBytes first ds ++ tail = S := ⟨_, rfl⟩
 have hSl := hl
 rw [hS] at hSl ⊢
 have hsb : (bs S).take S.length = bs S := by rw [← bs_len S, List.take_length]
 have hdl := recBytes_len ds first
 have hSlen : S.length = (recBytes first ds).length + tail.length := by rw [← hS]; simp
 refine cof 45 [.tmp 4, .tmp 5] Tryz.func114 Tryz.ntmps114 fun c hnt hc0 => ?_
 refine sq fun _ k1 => rgn 0 ?_
 repeat refine ⟨sd, ?_⟩
 refine k1 (sq fun _ k2 => rgn 1 ?_)
 repeat refine ⟨sd, ?_⟩
 refine k2 (sq fun _ k3 => rgn 1 ?_)
 repeat refine ⟨sd, ?_⟩
 refine k3 (sq fun _ k4 => rgn 0 ?_)
 repeat refine ⟨sd, ?_⟩
 refine k4 (sq fun _ k5 => sq fun _ k6 => rgn 0 ?_)
 repeat refine ⟨sd, ?_⟩
 refine k6 (bk fun _ k7 => ?_)
 refine wps_loop (fun k e σ => ∃ (i a : Nat) (dn todo : List (List UInt8)), k = S.length - i ∧ i = dn.length ∧ dn ++ todo = ds ∧ a = (recBytes first dn).length ∧ i ≤ S.length ∧ e = [(0, .u (.fz (bs S) q)), (1, .u (.i .u64 (first : Int))), (6, .p 0 0), (7, .p 1 0), (8, .fn 141 [.p 0 0, .p 1 0]), (15, .u (.i .i64 (S.length : Int))), (16, .u (.i .i64 (i : Int)))] ∧ σ = [.cells [.h 2], .cells [.u (.i .i64 (a : Int))], .row 127 2 ((recList first dn).map rrow)])
  (e0 := [(0, .u (.fz (bs S) q)), (1, .u (.i .u64 (first : Int))), (6, .p 0 0), (7, .p 1 0), (8, .fn 141 [.p 0 0, .p 1 0]), (15, .u (.i .i64 (S.length : Int))), (16, .u (.i .i64 0))]) (σ0 := [.cells [.h 2], .cells [.u (.i .i64 0)], .row 127 2 []]) ((ent_thawC 0 0 127 2 rfl rfl).trans (entL hc0 [some 0, some 1, some 2] rfl rfl mB (by simp only [go_sem, reduceIte, Nat.reduceEqDiff, List.cons_append, List.nil_append]))) ⟨0, 0, [], ds, rfl, rfl, rfl, rfl, Nat.zero_le _, rfl, rfl⟩ fun KL k e1 σ1 hI hKL => ?_
 obtain ⟨i, a, dn, todo, rfl, hid, hdt, had, hiS, rfl, rfl⟩ := hI
 have hspl : recBytes first ds = recBytes first dn ++ recBytes (first + i) todo := by rw [← hdt, hid]; exact recBytes_split dn todo first
 have hrest : S.drop a = recBytes (first + i) todo ++ tail := by
  rw [← hS, hspl, List.append_assoc, had, List.drop_left]
 have haS : a ≤ S.length := by rw [← hS, hspl, had]; simp
 have hdn := recBytes_len dn first
 have hii : dn.length ≤ ds.length := by rw [← hdt]; simp
 refine sq fun _ k8 => rgn 0 ?_
 repeat refine ⟨sd, ?_⟩
 refine k8 (sq fun _ k9 => cd rfl (fun h1 => ?_) (fun h1 => ?_))
 ·simp at h1
  have hw1 := wi1 i
  have hwi := wrapu_nat (n := i) (by omega)
  have hwf : IntKind.u64.wrap ((first : Int) + (i : Int)) = ((first + i : Nat) : Int) := by rw [wrapu64 (by omega) (by omega)]; omega
  refine wps_skip (k9 (sq fun _ k10 => bk fun _ k11 => sq fun _ k12 => rgn 0 ?_))
  repeat refine ⟨sd, ?_⟩
  refine k12 (sq fun _ k13 => ?_)
  rcases todo with _ | ⟨b, todo⟩
  rcases ht with ht | ht
  ·rw [recBytes, List.nil_append] at hrest
   have hg := rget_short tail (Option.map (fun x => x - a) q) ht
   refine rg 1 ?_
   refine evx3 hsb @bs_drop hrest ?_
   repeat refine ⟨sd, ?_⟩
   refine callT_at [] [] hg rfl rfl trivial mB mB rfl mR mR ?_
   refine evx3 hsb @bs_drop hrest ?_
   repeat refine ⟨sd, ?_⟩
   refine k13 (sq fun _ k14 => sq fun _ k15 => rg 0 ?_)
   refine evx2 hwi hwf ?_
   repeat refine ⟨sd, ?_⟩
   refine k15 (cd rfl (fun h2 => ?_) (fun h2 => ?_))
   ·refine wps_exit ?_
    simp only [reduceIte, Nat.reduceEqDiff]
    refine k7 (k5 (sq fun _ k16 => ?_))
    refine wps_keep [6, 7] mK ?_
    rw [List.append_nil] at hdt
    subst hdt
    refine dr 0 [0, 0, 1, 7] mixed ?_
    refine evl ?_
    repeat refine ⟨sd, ?_⟩
    refine k16 ?_
    refine wps_ent (e' := [(4, .u (.fz ((recList first dn).map rrow) none)), (5, .u (.i .i64 (a : Int)))]) (σ' := []) ((entF 2 rfl (e' := [(4, .u (.fz ((recList first dn).map rrow) none)), (5, .u (.i .i64 (a : Int)))]) mB rfl).trans (entL hc0 [] rfl rfl mB mB)) ?_
    refine wps_ret ?_
    refine retL [] mA mO rfl rfl ?_
    simp only [go_sem, and_true, true_and, implies_true, reduceIte, Nat.reduceEqDiff, Nat.reduceAdd, Nat.reduceLT, had]
   ·exact absurd h2 (by simp)
  ·rw [recBytes, List.nil_append] at hrest
   have hg := rget_cut tail (Option.map (fun x => x - a) q) ht.1 (by omega) ht.2
   refine rg 1 ?_
   refine evx3 hsb @bs_drop hrest ?_
   repeat refine ⟨sd, ?_⟩
   refine callT_at [] [] hg rfl rfl trivial mB mB rfl mR mR ?_
   refine evx3 hsb @bs_drop hrest ?_
   repeat refine ⟨sd, ?_⟩
   refine k13 (sq fun _ k17 => sq fun _ k18 => rg 0 ?_)
   refine evx2 hwi hwf ?_
   repeat refine ⟨sd, ?_⟩
   refine k18 (cd rfl (fun h2 => ?_) (fun h2 => ?_))
   ·refine wps_exit ?_
    simp only [reduceIte, Nat.reduceEqDiff]
    refine k7 (k5 (sq fun _ k19 => ?_))
    refine wps_keep [6, 7] mK ?_
    rw [List.append_nil] at hdt
    subst hdt
    refine dr 0 [0, 0, 1, 7] mixed ?_
    refine evl ?_
    repeat refine ⟨sd, ?_⟩
    refine k19 ?_
    refine wps_ent (e' := [(4, .u (.fz ((recList first dn).map rrow) none)), (5, .u (.i .i64 (a : Int)))]) (σ' := []) ((entF 2 rfl (e' := [(4, .u (.fz ((recList first dn).map rrow) none)), (5, .u (.i .i64 (a : Int)))]) mB rfl).trans (entL hc0 [] rfl rfl mB mB)) ?_
    refine wps_ret ?_
    refine retL [] mA mO rfl rfl ?_
    simp only [go_sem, and_true, true_and, implies_true, reduceIte, Nat.reduceEqDiff, Nat.reduceAdd, Nat.reduceLT, had]
   ·exact absurd h2 (by simp)
  ·rw [recBytes, List.append_assoc] at hrest
   have hbd : b ∈ ds := by rw [← hdt]; simp
   have hRl : (recS (first + i) b).length + (recBytes (first + i + 1) todo ++ tail).length + a = S.length := by
    have h2 := congrArg List.length hrest
    rw [List.length_drop, List.length_append] at h2; omega
   have hg := rget_ok (first + i) b (recBytes (first + i + 1) todo ++ tail) (Option.map (fun x => x - a) q) (by omega) (hd b hbd) (by omega)
   have hk := keep_ok (recList first dn) a (recS (first + i) b).length (first + i, b) (by omega) (by
    have : ∀ (d : List (List UInt8)) (f : Nat), (recList f d).length = d.length := by
     intro d
     induction d with
     | nil => intro f; rfl
     | cons x d ih => intro f; simp [recList, ih]
    rw [this]; omega)
   refine rg 1 ?_
   refine evx3 hsb @bs_drop hrest ?_
   repeat refine ⟨sd, ?_⟩
   refine callT_at [] [] hg rfl rfl trivial mB mB rfl mR mR ?_
   refine evx3 hsb @bs_drop hrest ?_
   repeat refine ⟨sd, ?_⟩
   refine k13 (sq fun _ k20 => sq fun _ k21 => rg 0 ?_)
   refine evx2 hwi hwf ?_
   repeat refine ⟨sd, ?_⟩
   refine k21 (cd rfl (fun h2 => ?_) (fun h2 => ?_))
   ·exact absurd h2 (by simp)
   ·refine wps_skip (k20 ?_)
    refine wps_keep [0, 1, 6, 7, 8, 10, 11, 15, 16] mK ?_
    refine rgn 0 ?_
    repeat refine ⟨sd, ?_⟩
    refine callT_atN [0, 1, 2] [_, _, _] hk rfl rfl ⟨rfl, rfl, rfl, trivial⟩ mB mB rfl ?_
    refine fxl ?_
    refine evl ?_
    repeat refine ⟨sd, ?_⟩
    refine k11 (k10 (rg 0 ?_))
    refine evx hw1 ?_
    repeat refine ⟨sd, ?_⟩
    exact hKL _ _ (S.length - (i + 1)) _ [.cells [.h 2], .cells [.u (.i .i64 ((a + (recS (first + i) b).length : Nat) : Int))], .row 127 2 ((recList first (dn ++ [b])).map rrow)] (entL hc0 [some 0, some 1, some 4] rfl rfl mB (by rw [recList_app, hid]; simp only [go_sem, reduceIte, Nat.reduceEqDiff, Nat.reduceAdd, Nat.reduceLT])) ⟨i + 1, _, dn ++ [b], todo, rfl, by simp [hid], by rw [← hdt]; simp, by rw [recBytes_app, List.length_append, had, hid], by omega, rfl, rfl⟩ (by omega)
 ·refine wps_exit ?_
  simp only [reduceIte, Nat.reduceEqDiff]
  refine k7 (k5 (sq fun _ k22 => ?_))
  have htodo : todo = [] := by
   have hge : S.length ≤ i := by simp at h1; omega
   have h0 : S.length = 0 := by omega
   have : ds.length = 0 := by omega
   rw [← hdt] at this
   simp at this; exact this.2
  subst htodo
  rw [List.append_nil] at hdt
  subst hdt
  refine dr 0 [0, 0, 1, 7] mixed ?_
  refine evl ?_
  repeat refine ⟨sd, ?_⟩
  refine k22 ?_
  refine wps_ent (e' := [(4, .u (.fz ((recList first dn).map rrow) none)), (5, .u (.i .i64 (a : Int)))]) (σ' := []) ((entF 2 rfl (e' := [(4, .u (.fz ((recList first dn).map rrow) none)), (5, .u (.i .i64 (a : Int)))]) mB rfl).trans (entL hc0 [] rfl rfl mB mB)) ?_
  refine wps_ret ?_
  refine retL [] mA mO rfl rfl ?_
  simp only [go_sem, and_true, true_and, implies_true, reduceIte, Nat.reduceEqDiff, Nat.reduceAdd, Nat.reduceLT, had]

/-! ### sectors, as lists -/
abbrev Sec := List (Nat × List UInt8)
def sget (k : Nat) : Sec → Option (List UInt8)
 | [] => none
 | e :: es => if k = e.1 then some e.2 else sget k es
def sput (k : Nat) (x : List UInt8) : Sec → Sec
 | [] => [(k, x)]
 | e :: es => if k = e.1 then (k, x) :: es else e :: sput k x es
def sdel (k : Nat) : Sec → Sec
 | [] => []
 | e :: es => if k = e.1 then es else e :: sdel k es
def sent (p : Nat × List UInt8) : PV × PV := (.i .i64 (p.1 : Int), .fz (bs p.2) none)

theorem beq_nat (a b : Nat) : (((a : Int) == (b : Int)) = true) = (a = b) := by
 rw [beq_iff_eq, Int.ofNat_inj]
theorem sfind (k : Nat) : ∀ m : Sec, findPV (.i .i64 (k : Int)) (m.map sent) = (sget k m).map fun b => .fz (bs b) none
 | [] => rfl
 | e :: es => by
  simp only [List.map_cons, findPV, sent, keyEq, if_true, sget, Option.some.injEq, beq_nat]
  by_cases h : k = e.1
  ·rw [if_pos h, if_pos h]; rfl
  ·rw [if_neg h, if_neg h]; exact sfind k es
theorem sputE (k : Nat) (x : List UInt8) : ∀ m : Sec, updPV (.i .i64 (k : Int)) (.fz (bs x) none) (m.map sent) = (sput k x m).map sent
 | [] => rfl
 | e :: es => by
  simp only [List.map_cons, updPV, sent, keyEq, if_true, sput, Option.some.injEq, beq_nat]
  by_cases h : k = e.1
  ·rw [if_pos h, if_pos h]; rfl
  ·rw [if_neg h, if_neg h, List.map_cons]; rw [sputE k x es]; rfl
theorem sdelE (k : Nat) : ∀ m : Sec, delPV (.i .i64 (k : Int)) (m.map sent) = (sdel k m).map sent
 | [] => rfl
 | e :: es => by
  simp only [List.map_cons, delPV, sent, keyEq, if_true, sdel, Option.some.injEq, beq_nat]
  by_cases h : k = e.1
  ·rw [if_pos h, if_pos h]
  ·rw [if_neg h, if_neg h, List.map_cons]; rw [sdelE k es]; rfl
theorem skeys (k : Nat) (m : Sec) : keysOK (.i .i64 (k : Int)) (m.map sent) := by
 intro e he
 obtain ⟨p, _, rfl⟩ := List.mem_map.1 he
 rfl
/-- what stands in a sector; nothing: none -/
def sgetD (k : Nat) (m : Sec) : List UInt8 := (sget k m).getD []
def zslice (o : Option (List UInt8)) : PV := match o with | some b => .fz (bs b) none | none => .fz [] (some 0)
theorem sgot (k : Nat) (m : Sec) : (findPV (.i .i64 (k : Int)) (m.map sent)).getD (.fz [] (some 0)) = zslice (sget k m) := by
 rw [sfind]
 cases sget k m <;> rfl
theorem sin (k : Nat) (m : Sec) : (findPV (.i .i64 (k : Int)) (m.map sent)).isSome = (sget k m).isSome := by
 rw [sfind]
 cases sget k m <;> rfl
theorem zslice_eq (o : Option (List UInt8)) : zslice o = .fz (bs (o.getD [])) (match o with | some _ => none | none => some 0) := by
 cases o <;> rfl

/-- so many bytes of the new ones, the rest of the old ones -/
def torn (n : Int) (b old : List UInt8) : List UInt8 := b.take n.toNat ++ (if n.toNat < b.length then old.drop n.toNat else [])

theorem wr1_ok (m : Sec) (at_ : Nat) (b : List UInt8) (n : Int) (hb : b.length ≤ 100000) (hm : (sgetD at_ m).length ≤ 100000) : CallT Tryz.prog 169 [.h 0, .u (.i .i64 n), .u (.fp [.fz (bs b) none]), .u (.fp [.i .i64 (at_ : Int)])] [.map (m.map sent)]
  fun r σ => r = .tup [] ∧ σ = [.map ((sput at_ (torn n b (sgetD at_ m)) m).map sent)] := by
 obtain ⟨old, hold⟩ : ∃ o, sgetD at_ m = o := ⟨_, rfl⟩
 have hg := sgot at_ m
 rw [zslice_eq, show (sget at_ m).getD [] = old from hold] at hg
 rw [hold] at hm ⊢
 generalize (match sget at_ m with | some _ => none | none => some 0 : Option Nat) = q at hg
 have hta : (bs old).take old.length = bs old := by rw [← bs_len old, List.take_length]
 obtain ⟨k, hk⟩ : ∃ k : Nat, min (max n 0) (b.length : Int) = (k : Int) := ⟨(min (max n 0) (b.length : Int)).toNat, by omega⟩
 have hkb : k ≤ b.length := by omega
 have htk : (bs b).take k = bs (b.take k) := bs_take _ _
 have hkeys := skeys at_ m
 have hts : torn n b old = b.take k ++ (if k < b.length then old.drop k else []) := by
  rw [torn]
  by_cases h : k < b.length
  ·have : n.toNat = k := by omega
   rw [this]
  ·have h2 : ¬ n.toNat < b.length := by omega
   rw [if_neg h, if_neg h2, List.take_of_length_le (by omega), List.take_of_length_le (by omega)]
 refine cof 39 [] Tryz.func169 Tryz.ntmps169 fun c hnt hc0 => ?_
 refine sq fun _ k1 => rg 0 ?_
 refine evx hk ?_
 repeat refine ⟨sd, ?_⟩
 refine k1 (sq fun _ k2 => rg 1 ?_)
 refine evx htk ?_
 repeat refine ⟨sd, ?_⟩
 refine k2 (sq fun _ k3 => sq fun _ k4 => rg 0 ?_)
 refine evx hg ?_
 repeat refine ⟨sd, ?_⟩
 refine k4 (sq fun _ k5 => rgn 0 ?_)
 repeat refine ⟨sd, ?_⟩
 refine k5 (cd rfl (fun h1 => ?_) (fun h1 => ?_))
 ·have h2 : k < b.length ∧ k < old.length := by simpa using h1
  rw [if_pos h2.1] at hts
  refine rg 1 ?_
  refine evx3 hta @bs_drop @bs_app ?_
  repeat refine ⟨sd, ?_⟩
  refine k3 ?_
  first
  | refine wps_ent (e' := [(0, .h 0), (3, .u (.fp [.i .i64 (at_ : Int)])), (6, .u (.fz (bs (b.take k ++ old.drop k)) none))]) (entF 2 rfl mB rfl) ?_
  | refine wps_ent (e' := [(0, .h 0), (3, .u (.fp [.i .i64 (at_ : Int)])), (6, .u (.fz (bs (b.take k)) none))]) (entF 1 rfl mB rfl) ?_
  refine rg 0 ?_
  refine evx @sputE ?_
  repeat refine ⟨sd, ?_⟩
  refine retL [some 0] rfl trivial rfl rfl ?_
  simp only [go_sem, and_true, true_and, implies_true, reduceIte, Nat.reduceEqDiff, Nat.reduceAdd, Nat.reduceLT, hts]
 ·have h2 : (if k < b.length then old.drop k else []) = [] := by
   simp at h1
   by_cases h : k < b.length
   ·rw [if_pos h]; exact List.drop_eq_nil_of_le (h1 h)
   ·rw [if_neg h]
  rw [h2, List.append_nil] at hts
  refine wps_skip (k3 ?_)
  first
  | refine wps_ent (e' := [(0, .h 0), (3, .u (.fp [.i .i64 (at_ : Int)])), (6, .u (.fz (bs (b.take k ++ old.drop k)) none))]) (entF 2 rfl mB rfl) ?_
  | refine wps_ent (e' := [(0, .h 0), (3, .u (.fp [.i .i64 (at_ : Int)])), (6, .u (.fz (bs (b.take k)) none))]) (entF 1 rfl mB rfl) ?_
  refine rg 0 ?_
  refine evx @sputE ?_
  repeat refine ⟨sd, ?_⟩
  refine retL [some 0] rfl trivial rfl rfl ?_
  simp only [go_sem, and_true, true_and, implies_true, reduceIte, Nat.reduceEqDiff, Nat.reduceAdd, Nat.reduceLT, hts]
theorem fr1_ok (m : Sec) (at_ : Nat) (n : Int) : CallT Tryz.prog 160 [.h 0, .u (.i .i64 n), .u (.fp [.i .i64 (at_ : Int)])] [.map (m.map sent)]
  fun r σ => r = .tup [] ∧ σ = [.map ((sdel at_ m).map sent)] := by
 have hkeys := skeys at_ m
 refine cof 7 [] Tryz.func160 Tryz.ntmps160 fun c hnt hc0 => ?_
 refine rg 0 ?_
 refine evx @sdelE ?_
 repeat refine ⟨sd, ?_⟩
 refine retL [some 0] rfl trivial rfl rfl ?_
 exact mT

theorem writing_ok (at_ : Nat) (b : List UInt8) (q : Option Nat) : CallT Tryz.prog 158 [.u (.i .i64 (at_ : Int)), .u (.fz (bs b) q)] []
  fun r σ => r = .u (.fn 169 [.fp [.fz (bs b) q], .fp [.i .i64 (at_ : Int)]]) ∧ σ = [] := by
 refine cof 6 [.tmp 4] Tryz.func158 Tryz.ntmps158 fun c hnt hc0 => ?_
 refine sq fun _ k1 => rgn 2 ?_
 repeat refine ⟨sd, ?_⟩
 refine k1 (sq fun _ k2 => rgn 0 ?_)
 repeat refine ⟨sd, ?_⟩
 refine k2 ?_
 refine wps_ent (e' := [(4, .u (.fn 169 [.fp [.fz (bs b) q], .fp [.i .i64 (at_ : Int)]]))]) (σ' := []) ((((entFc 0 [.i .i64 (at_ : Int)] rfl (e' := [(4, .fn 169 [.p 1 0, .u (.fp [.i .i64 (at_ : Int)])])]) (σ' := [.dead, .cells [.u (.fz (bs b) q)]]) mB mB).trans (entFc 1 [.fz (bs b) q] rfl (e' := [(4, .fn 169 [.u (.fp [.fz (bs b) q]), .u (.fp [.i .i64 (at_ : Int)])])]) mB rfl)).trans (ent_pfn 4 169 [.fp [.fz (bs b) q], .fp [.i .i64 (at_ : Int)]] rfl)).trans (entL hc0 [] rfl rfl mB mB)) ?_
 refine wps_ret ?_
 refine retL [] mA mO rfl rfl ?_
 exact mT

theorem freeing_ok (at_ : Nat) : CallT Tryz.prog 144 [.u (.i .i64 (at_ : Int))] []
  fun r σ => r = .u (.fn 160 [.fp [.i .i64 (at_ : Int)]]) ∧ σ = [] := by
 refine cof 4 [.tmp 2] Tryz.func144 Tryz.ntmps144 fun c hnt hc0 => ?_
 refine sq fun _ k1 => rgn 1 ?_
 repeat refine ⟨sd, ?_⟩
 refine k1 (sq fun _ k2 => rgn 0 ?_)
 repeat refine ⟨sd, ?_⟩
 refine k2 ?_
 refine wps_ent (e' := [(2, .u (.fn 160 [.fp [.i .i64 (at_ : Int)]]))]) (σ' := []) (((entFc 0 [.i .i64 (at_ : Int)] rfl (e' := [(2, .fn 160 [.u (.fp [.i .i64 (at_ : Int)])])]) mB rfl).trans (ent_pfn 2 160 [.fp [.i .i64 (at_ : Int)]] rfl)).trans (entL hc0 [] rfl rfl mB mB)) ?_
 refine wps_ret ?_
 refine retL [] mA mO rfl rfl ?_
 exact mT

/-! ### the disk: what is written and not synced -/
abbrev Pend := Nat × Option (List UInt8)
def pfn (p : Pend) : PV := match p.2 with
 | some b => .fn 169 [.fp [.fz (bs b) none], .fp [.i .i64 (p.1 : Int)]]
 | none => .fn 160 [.fp [.i .i64 (p.1 : Int)]]
def prow (p : Pend) : List PV := [pfn p]
def dskC (k1 k2 k3 : Nat) : List SV := [.u (.i .i64 1000), .u (.i .i64 1000), .h k1, .h k2, .h k3]
def dsk (v g : Sec) (p : List Pend) : List SObj := [.cells (dskC 1 2 3), .map (v.map sent), .map (g.map sent), .row 116 1 (p.map prow)]

theorem dow_ok (v g : Sec) (p : List Pend) (at_ : Nat) (b : List UInt8) (n : Int) (hb : b.length ≤ 100000) (hm : (sgetD at_ v).length ≤ 100000) (hp : p.length ≤ 100000) : CallT Tryz.prog 143 [.p 0 0, .u (.fn 169 [.fp [.fz (bs b) none], .fp [.i .i64 (at_ : Int)]]), .u (.i .i64 n)] (dsk v g p)
  fun r σ => r = .tup [] ∧ σ = [.cells (dskC 1 2 4), .map ((sput at_ (torn n b (sgetD at_ v)) v).map sent), .map (g.map sent), .dead] ++ [.row 116 1 ((p ++ [(at_, some b)]).map prow)] := by
 have hw := wr1_ok v at_ b n hb hm
 unfold dsk dskC
 refine cof 23 [] Tryz.func143 Tryz.ntmps143 fun c hnt hc0 => ?_
 refine sq fun _ k1 => rgn 1 ?_
 repeat refine ⟨sd, ?_⟩
 refine k1 (rgn 0 ?_)
 repeat refine ⟨sd, ?_⟩
 refine callT_at [1] [_] hw rfl rfl ⟨rfl, trivial⟩ mB mB rfl mR mR ?_
 refine evl ?_
 repeat refine ⟨sd, ?_⟩
 refine retL [some 0, some 1, some 2, some 3, some 4] rfl trivial rfl rfl ?_
 simp only [go_sem, and_true, true_and, implies_true, reduceIte, Nat.reduceEqDiff, Nat.reduceAdd, Nat.reduceLT, List.map_append, List.cons_append, List.nil_append, prow, pfn]

theorem dof_ok (v g : Sec) (p : List Pend) (at_ : Nat) (n : Int) (hp : p.length ≤ 100000) : CallT Tryz.prog 143 [.p 0 0, .u (.fn 160 [.fp [.i .i64 (at_ : Int)]]), .u (.i .i64 n)] (dsk v g p)
  fun r σ => r = .tup [] ∧ σ = [.cells (dskC 1 2 4), .map ((sdel at_ v).map sent), .map (g.map sent), .dead] ++ [.row 116 1 ((p ++ [(at_, none)]).map prow)] := by
 have hw := fr1_ok v at_ n
 unfold dsk dskC
 refine cof 23 [] Tryz.func143 Tryz.ntmps143 fun c hnt hc0 => ?_
 refine sq fun _ k1 => rgn 1 ?_
 repeat refine ⟨sd, ?_⟩
 refine k1 (rgn 0 ?_)
 repeat refine ⟨sd, ?_⟩
 refine callT_at [1] [_] hw rfl rfl ⟨rfl, trivial⟩ mB mB rfl mR mR ?_
 refine evl ?_
 repeat refine ⟨sd, ?_⟩
 refine retL [some 0, some 1, some 2, some 3, some 4] rfl trivial rfl rfl ?_
 simp only [go_sem, and_true, true_and, implies_true, reduceIte, Nat.reduceEqDiff, Nat.reduceAdd, Nat.reduceLT, List.map_append, List.cons_append, List.nil_append, prow, pfn]

theorem dread_none (v g : Sec) (p : List Pend) (at_ : Nat) (h : sget at_ v = none) : CallT Tryz.prog 134 [.p 0 0, .u (.i .i64 (at_ : Int))] (dsk v g p)
  fun r σ => r = .tup [.u (.fz [] (some 0)), .u (.i .i64 61)] ∧ σ = dsk v g p := by
 have hg := sgot at_ v
 have hi := sin at_ v
 rw [h] at hg hi
 have hkeys := skeys at_ v
 unfold dsk dskC
 refine cof 22 [.tmp 4, .tmp 5] Tryz.func134 Tryz.ntmps134 fun c hnt hc0 => ?_
 refine sq fun _ k1 => rgn 0 ?_
 repeat refine ⟨sd, ?_⟩
 refine k1 (sq fun _ k2 => rg 0 ?_)
 simp only [↓kOps_app, ↓evOps_nil, ↓evOps_cons, go_sem, Int.reduceAdd, Int.reduceBEq, Int.reduceEq, Int.reduceLE, Int.reduceLT, Int.reduceNe, Int.reduceSub, Int.reduceToNat, Nat.reduceAdd, Nat.reduceBEq, Nat.reduceEqDiff, Nat.reduceLT, Nat.reduceLeDiff, Nat.reduceMul, Nat.reduceSub, reduceCtorEq, reduceIte, hg, hi, zslice, Option.isSome_none]
 repeat refine ⟨sd, ?_⟩
 refine k2 (sq fun _ k3 => sq fun _ k4 => rgn 0 ?_)
 repeat refine ⟨sd, ?_⟩
 refine k4 (cd rfl (fun h1 => ?_) (fun h1 => ?_))
 ·refine sq fun _ k5 => rgn 0 ?_
  repeat refine ⟨sd, ?_⟩
  refine k5 (wps_ret ?_)
  refine retL [some 0, some 1, some 2, some 3] mA mO rfl rfl ?_
  exact mT
 ·exact absurd h1 (by simp)

theorem dread_some (v g : Sec) (p : List Pend) (at_ : Nat) (b : List UInt8) (hb : b.length ≤ 100000) (h : sget at_ v = some b) : CallT Tryz.prog 134 [.p 0 0, .u (.i .i64 (at_ : Int))] (dsk v g p)
  fun r σ => r = .tup [.u (.fz (bs b) none), .u (.i .i64 0)] ∧ σ = dsk v g p := by
 have hg := sgot at_ v
 have hi := sin at_ v
 rw [h] at hg hi
 have hkeys := skeys at_ v
 unfold dsk dskC
 refine cof 22 [.tmp 4, .tmp 5] Tryz.func134 Tryz.ntmps134 fun c hnt hc0 => ?_
 refine sq fun _ k1 => rgn 0 ?_
 repeat refine ⟨sd, ?_⟩
 refine k1 (sq fun _ k2 => rg 0 ?_)
 simp only [↓kOps_app, ↓evOps_nil, ↓evOps_cons, go_sem, Int.reduceAdd, Int.reduceBEq, Int.reduceEq, Int.reduceLE, Int.reduceLT, Int.reduceNe, Int.reduceSub, Int.reduceToNat, Nat.reduceAdd, Nat.reduceBEq, Nat.reduceEqDiff, Nat.reduceLT, Nat.reduceLeDiff, Nat.reduceMul, Nat.reduceSub, reduceCtorEq, reduceIte, hg, hi, zslice, Option.isSome_some]
 repeat refine ⟨sd, ?_⟩
 refine k2 (sq fun _ k3 => sq fun _ k4 => rgn 0 ?_)
 repeat refine ⟨sd, ?_⟩
 refine k4 (cd rfl (fun h1 => ?_) (fun h1 => ?_))
 ·exact absurd h1 (by simp)
 ·refine wps_skip (k3 (sq fun _ k5 => rgn 1 ?_))
  repeat refine ⟨sd, ?_⟩
  refine k5 ?_
  refine wps_ent (e' := [(4, .u (.fz (bs b) none)), (5, .u (.i .i64 0))]) (σ' := [.cells [.u (.i .i64 1000), .u (.i .i64 1000), .h 1, .h 2, .h 3], .map (v.map sent), .map (g.map sent), .row 116 1 (p.map prow)]) ((entF 4 rfl (e' := [(4, .u (.fz (bs b) none)), (5, .u (.i .i64 0))]) mB rfl).trans (entL hc0 [some 0, some 1, some 2, some 3] rfl rfl mB mB)) ?_
  refine wps_ret ?_
  refine retL [some 0, some 1, some 2, some 3] mA mO rfl rfl ?_
  exact mT

theorem dwrite_ok (v g : Sec) (p : List Pend) (at_ : Nat) (b : List UInt8) (q : Option Nat) (ha : at_ < 1000) (hb : b.length ≤ 512) (hv : v.length < 1000) (hm : (sgetD at_ v).length ≤ 512) (hp : p.length ≤ 100000) : CallT Tryz.prog 133 [.p 0 0, .u (.i .i64 (at_ : Int)), .u (.fz (bs b) q)] (dsk v g p)
  fun r σ => r = .u (.i .i64 0) ∧ σ = [.cells (dskC 1 2 4), .map ((sput at_ b v).map sent), .map (g.map sent), .dead] ++ [.row 116 1 ((p ++ [(at_, some b)]).map prow)] := by
 have hg := sgot at_ v
 have hi := sin at_ v
 rw [zslice_eq] at hg
 generalize (match sget at_ v with | some _ => none | none => some 0 : Option Nat) = q at hg
 have hkeys := skeys at_ v
 have hd := dow_ok v g p at_ b (b.length : Int) (by omega) (by omega) hp
 have ht : torn (b.length : Int) b (sgetD at_ v) = b := by simp [torn]
 rw [ht] at hd
 have hwr := writing_ok at_ b none
 unfold dsk dskC at *
 refine cof 58 [.tmp 6] Tryz.func133 Tryz.ntmps133 fun c hnt hc0 => ?_
 refine sq fun _ k1 => rgn 0 ?_
 repeat refine ⟨sd, ?_⟩
 refine k1 (sq fun _ k2 => rg 0 ?_)
 refine evx2 hg hi ?_
 repeat refine ⟨sd, ?_⟩
 refine k2 (sq fun _ k3 => bk fun _ k4 => sq fun _ k5 => rgn 0 ?_)
 repeat refine ⟨sd, ?_⟩
 refine k5 (cd rfl (fun h1 => ?_) (fun h1 => ?_))
 ·exact absurd h1 (by simp; omega)
 ·refine sq fun _ k6 => rgn 0 ?_
  repeat refine ⟨sd, ?_⟩
  refine k6 (cd rfl (fun h2 => ?_) (fun h2 => ?_))
  ·exact absurd h2 (by simp; omega)
  ·refine sq fun _ k7 => dr 0 [0, 1, 3, 7, 15, 31, 63, 127, 7, 263, 775, 1799, 4095, 8191, 16383] mixed ?_
   refine evl ?_
   repeat refine ⟨sd, ?_⟩
   refine k7 (cd rfl (fun h3 => ?_) (fun h3 => ?_))
   ·exact absurd h3 (by simp; omega)
   ·refine wps_skip (k4 (k3 (sq fun _ k8 => rgn 1 ?_)))
    repeat refine ⟨sd, ?_⟩
    refine k8 (sq fun _ k9 => ?_)
    refine wps_ent (e' := [(0, .p 0 0), (1, .u (.i .i64 (at_ : Int))), (2, .u (.fz (bs b) none))]) (entF 4 rfl mB rfl) ?_
    refine rgn 0 ?_
    repeat refine ⟨sd, ?_⟩
    refine callT_at [] [] hwr rfl rfl trivial mB mB rfl mR mR ?_
    refine evl ?_
    repeat refine ⟨sd, ?_⟩
    refine callT_atN [0, 1, 2, 3] [_, _, _, _] hd rfl rfl ⟨rfl, rfl, rfl, rfl, trivial⟩ mB mB rfl ?_
    refine fxl ?_
    refine evl ?_
    repeat refine ⟨sd, ?_⟩
    refine k9 (sq fun _ k10 => rgn 0 ?_)
    repeat refine ⟨sd, ?_⟩
    refine k10 (wps_ret ?_)
    refine retL [some 0, some 1, some 2, some 3, some 5] rfl ⟨trivial, trivial⟩ rfl rfl ?_
    exact mU

theorem dfree_none (v g : Sec) (p : List Pend) (at_ : Nat) (h : sget at_ v = none) : CallT Tryz.prog 117 [.p 0 0, .u (.i .i64 (at_ : Int))] (dsk v g p)
  fun r σ => r = .u (.i .i64 61) ∧ σ = dsk v g p := by
 have hg := sgot at_ v
 have hi := sin at_ v
 rw [h] at hg hi
 have hkeys := skeys at_ v
 unfold dsk dskC
 refine cof 22 [.tmp 4] Tryz.func117 Tryz.ntmps117 fun c hnt hc0 => ?_
 refine sq fun _ k1 => rgn 0 ?_
 repeat refine ⟨sd, ?_⟩
 refine k1 (sq fun _ k2 => sq fun _ k3 => rg 0 ?_)
 simp only [↓kOps_app, ↓evOps_nil, ↓evOps_cons, go_sem, Int.reduceAdd, Int.reduceBEq, Int.reduceEq, Int.reduceLE, Int.reduceLT, Int.reduceNe, Int.reduceSub, Int.reduceToNat, Nat.reduceAdd, Nat.reduceBEq, Nat.reduceEqDiff, Nat.reduceLT, Nat.reduceLeDiff, Nat.reduceMul, Nat.reduceSub, reduceCtorEq, reduceIte, hg, hi, zslice, Option.isSome_none]
 repeat refine ⟨sd, ?_⟩
 refine k3 (sq fun _ k4 => rgn 0 ?_)
 repeat refine ⟨sd, ?_⟩
 refine k4 (cd rfl (fun h1 => ?_) (fun h1 => ?_))
 ·refine sq fun _ k5 => rgn 0 ?_
  repeat refine ⟨sd, ?_⟩
  refine k5 (wps_ret ?_)
  refine retL [some 0, some 1, some 2, some 3] rfl ⟨trivial, trivial⟩ rfl rfl ?_
  exact mT
 ·exact absurd h1 (by simp)

theorem dfree_some (v g : Sec) (p : List Pend) (at_ : Nat) (b : List UInt8) (h : sget at_ v = some b) (hp : p.length ≤ 100000) : CallT Tryz.prog 117 [.p 0 0, .u (.i .i64 (at_ : Int))] (dsk v g p)
  fun r σ => r = .u (.i .i64 0) ∧ σ = [.cells (dskC 1 2 4), .map ((sdel at_ v).map sent), .map (g.map sent), .dead] ++ [.row 116 1 ((p ++ [(at_, none)]).map prow)] := by
 have hg := sgot at_ v
 have hi := sin at_ v
 rw [h] at hg hi
 have hkeys := skeys at_ v
 have hd := dof_ok v g p at_ 0 hp
 have hf := freeing_ok at_
 unfold dsk dskC at *
 refine cof 22 [.tmp 4] Tryz.func117 Tryz.ntmps117 fun c hnt hc0 => ?_
 refine sq fun _ k1 => rgn 0 ?_
 repeat refine ⟨sd, ?_⟩
 refine k1 (sq fun _ k2 => sq fun _ k3 => rg 0 ?_)
 simp only [↓kOps_app, ↓evOps_nil, ↓evOps_cons, go_sem, Int.reduceAdd, Int.reduceBEq, Int.reduceEq, Int.reduceLE, Int.reduceLT, Int.reduceNe, Int.reduceSub, Int.reduceToNat, Nat.reduceAdd, Nat.reduceBEq, Nat.reduceEqDiff, Nat.reduceLT, Nat.reduceLeDiff, Nat.reduceMul, Nat.reduceSub, reduceCtorEq, reduceIte, hg, hi, zslice, Option.isSome_some]
 repeat refine ⟨sd, ?_⟩
 refine k3 (sq fun _ k4 => rgn 0 ?_)
 repeat refine ⟨sd, ?_⟩
 refine k4 (cd rfl (fun h1 => ?_) (fun h1 => ?_))
 ·exact absurd h1 (by simp)
 ·refine wps_skip (k2 (sq fun _ k5 => rgn 0 ?_))
  repeat refine ⟨sd, ?_⟩
  refine callT_at [] [] hf rfl rfl trivial mB mB rfl mR mR ?_
  refine evl ?_
  repeat refine ⟨sd, ?_⟩
  refine callT_atN [0, 1, 2, 3] [_, _, _, _] hd rfl rfl ⟨rfl, rfl, rfl, rfl, trivial⟩ mB mB rfl ?_
  refine fxl ?_
  refine evl ?_
  repeat refine ⟨sd, ?_⟩
  refine k5 (sq fun _ k6 => rgn 0 ?_)
  repeat refine ⟨sd, ?_⟩
  refine k6 (wps_ret ?_)
  refine retL [some 0, some 1, some 2, some 3, some 4] rfl ⟨trivial, trivial⟩ rfl rfl ?_
  exact mU

end Go.Proofs.YtefipnajpabfgaaGreatDoor
