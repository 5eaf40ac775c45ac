/- Part 5 of the proof: what functions of the program do, and plain facts on what they compute. -/
import Derived.Test.YtefipnajpabfgaaGreatDoorP4
set_option linter.all false
set_option maxRecDepth 40000
set_option maxHeartbeats 16000000
set_option linter.unusedSimpArgs false
set_option linter.unusedVariables false
namespace Go.Proofs.YtefipnajpabfgaaGreatDoor
open Go.Nm

/-! ### sectors copied, in any order -/
theorem sput_new (k : Nat) (x : List UInt8) : ∀ m : Sec, k ∉ m.map Prod.fst → sput k x m = m ++ [(k, x)]
 | [], _ => rfl
 | e :: es, h => by
  simp only [List.map_cons, List.mem_cons, not_or] at h
  simp only [sput, if_neg h.1, List.cons_append]
  rw [sput_new k x es h.2]
theorem sent_at {m : Sec} {j : Nat} {k x : PV} (h : (m.map sent)[j]? = some (k, x)) : ∃ a b, m[j]? = some (a, b) ∧ k = .i .i64 (a : Int) ∧ x = .fz (bs b) none := by
 rw [List.getElem?_map] at h
 obtain ⟨p, hp, he⟩ := Option.map_eq_some_iff.1 h
 cases he
 exact ⟨p.1, p.2, hp, rfl, rfl⟩
theorem perm_erase {α : Type} : ∀ (l : List α) (j : Nat) (x : α), l[j]? = some x → (x :: l.eraseIdx j).Perm l
 | [], j, x, h => by simp at h
 | y :: l, 0, x, h => by simp at h; subst h; exact List.Perm.refl _
 | y :: l, j + 1, x, h => by
  have := perm_erase l j x (by simpa using h)
  simp only [List.eraseIdx_cons_succ]
  exact (List.Perm.swap y x _).trans (this.cons y)

theorem copied_ok (m : Sec) (hnd : (m.map Prod.fst).Nodup) (hb : ∀ p ∈ m, p.2.length ≤ 100000) : CallT Tryz.prog 43 [.h 0] [.map (m.map sent)]
  fun r σ => ∃ m' : Sec, m'.Perm m ∧ r = .h 1 ∧ σ = [.map (m.map sent)] ++ [.map (m'.map sent)] := by
 refine cof 20 [.tmp 2] Tryz.func43 Tryz.ntmps43 fun c hnt hc0 => ?_
 refine sq fun _ k1 => rgn 0 ?_
 repeat refine ⟨sd, ?_⟩
 refine k1 (sq fun _ k2 => rgn 1 ?_)
 repeat refine ⟨sd, ?_⟩
 refine k2 (sq fun _ k3 => sq fun _ k4 => rgn 1 ?_)
 repeat refine ⟨sd, ?_⟩
 refine k4 (bk fun _ k5 => ?_)
 refine wps_loop (fun k e σ => ∃ (dn left : Sec) (cur : Option (PV × PV)), k = left.length ∧ (dn ++ left).Perm m ∧ e = [(0, .h 0), (3, .h 1), (8, .h 2)] ∧ σ = [.dead, .map (dn.map sent), .iter 0 (m.map sent) (left.map sent) cur])
  (e0 := [(0, .h 0), (3, .h 1), (8, .h 2)]) (σ0 := [.dead, .map [], .iter 0 (m.map sent) (m.map sent) none]) (entL hc0 [some 0, some 1, some 2] rfl rfl mB mB) ⟨[], m, none, rfl, by simp, rfl, rfl⟩ fun KL k e1 σ1 hI hKL => ?_
 obtain ⟨dn, left, cur, rfl, hp, rfl, rfl⟩ := hI
 refine sq fun _ k6 => ?_
 refine wps_nextB (n := 2) (by rw [hnt]; decide) (by rw [hnt]; decide) rfl rfl fun bb tv σ' hb => ?_
 refine k6 (sq fun _ k7 => cd rfl (fun h1 => ?_) (fun h1 => ?_))
 ·subst h1
  rcases hb with ⟨hf, _⟩ | ⟨_, j, kx, vx, hj, rfl⟩
  ·cases hf
  obtain ⟨a, b, hab, rfl, rfl⟩ := sent_at hj
  have hmem : (a, b) ∈ m := hp.subset (List.mem_append_right _ (List.mem_of_getElem? hab))
  have hbl : b.length ≤ 100000 := hb _ hmem
  have hp2 : ((dn ++ [(a, b)]) ++ left.eraseIdx j).Perm m := by
   refine List.Perm.trans ?_ hp
   rw [List.append_assoc]
   exact (perm_erase left j (a, b) hab).append_left dn
  have hnew : a ∉ dn.map Prod.fst := by
   have h2 := (hp2.map Prod.fst).nodup_iff.2 hnd
   rw [List.map_append, List.map_append] at h2
   have h3 := (List.nodup_append.1 (List.nodup_append.1 h2).1).2.2
   intro h4
   exact h3 a h4 a (by simp) rfl
  have hkeys := skeys a dn
  have hers : (left.eraseIdx j).length + 1 = left.length := by
   have := (List.getElem?_eq_some_iff.1 hab).1
   rw [List.length_eraseIdx_of_lt this]; omega
  refine wps_skip (k7 (bk fun _ k8 => sq fun _ k9 => rgn 0 ?_))
  repeat refine ⟨sd, ?_⟩
  refine k9 (rg 1 ?_)
  simp only [↓kOps_app, ↓evOps_nil, ↓evOps_cons, go_sem, Int.reduceAdd, Int.reduceBEq, Int.reduceEq, Int.reduceLE, Int.reduceLT, Int.reduceNe, Int.reduceSub, Int.reduceToNat, Nat.reduceAdd, Nat.reduceBEq, Nat.reduceEqDiff, Nat.reduceLT, Nat.reduceLeDiff, Nat.reduceMul, Nat.reduceSub, reduceCtorEq, reduceIte, sputE, sput_new a b dn hnew]
  repeat refine ⟨sd, ?_⟩
  refine k8 ?_
  exact hKL _ _ (left.eraseIdx j).length _ [.dead, .map ((dn ++ [(a, b)]).map sent), .iter 0 (m.map sent) ((left.eraseIdx j).map sent) (some (.i .i64 (a : Int), .fz (bs b) none))] (entL hc0 [some 0, some 1, some 2] rfl rfl mB (by rw [Go.ChangeMaps.map_eraseIdx]; simp only [go_sem, reduceIte, Nat.reduceEqDiff])) ⟨dn ++ [(a, b)], left.eraseIdx j, _, rfl, hp2, rfl, rfl⟩ (by omega)
 ·subst h1
  rcases hb with ⟨_, hl0, rfl⟩ | ⟨hf, _⟩
  case inr => cases hf
  have hl0 : left = [] := by simpa using hl0
  subst hl0
  rw [List.append_nil] at hp
  refine wps_exit ?_
  simp only [reduceIte, Nat.reduceEqDiff]
  refine k5 (k3 (sq fun _ k10 => ?_))
  refine wps_ent (ent_iter 2 0 rfl rfl) ?_
  refine rgn 0 ?_
  repeat refine ⟨sd, ?_⟩
  refine k10 (wps_ret ?_)
  refine retL [some 0, some 1] rfl ⟨trivial, trivial⟩ rfl rfl ?_
  refine ⟨dn, hp, ?_⟩
  exact mU
theorem sync_ok (v g : Sec) (p : List Pend) (hnd : (v.map Prod.fst).Nodup) (hb : ∀ p ∈ v, p.2.length ≤ 100000) : CallT Tryz.prog 65 [.p 0 0] (dsk v g p)
  fun r σ => ∃ g' : Sec, g'.Perm v ∧ r = .tup [] ∧ σ = [.cells (dskC 1 4 5), .map (v.map sent), .dead, .dead] ++ [.map (g'.map sent), .row 116 1 []] := by
 have hc := copied_ok v hnd hb
 unfold dsk dskC
 refine cof 13 [] Tryz.func65 Tryz.ntmps65 fun c hnt hc0 => ?_
 refine wps_post ?_
 refine rgn 0 ?_
 repeat refine ⟨sd, ?_⟩
 refine callT_atNE [1] [_] hc rfl rfl ⟨rfl, trivial⟩ mB mB (fun _ => rfl) (fun g' hg' => ?_)
 refine fxl ?_
 refine evl ?_
 repeat refine ⟨sd, ?_⟩
 refine ⟨[], [.cells [.u (.i .i64 1000), .u (.i .i64 1000), .h 1, .h 4, .h 5], .map (v.map sent), .dead, .dead, .map (g'.map sent), .row 116 1 []], (ent_thawC 0 4 116 1 rfl rfl).trans (entL2 hc0 [some 0, some 1, none, none, some 4, some 5] rfl rfl mB (by simp only [go_sem, reduceIte, Nat.reduceEqDiff, List.cons_append, List.nil_append])), retL [some 0, some 1, some 2, some 3, some 4, some 5] rfl trivial rfl rfl ?_⟩
 refine ⟨g', hg', ?_⟩
 exact mU

theorem disknew_ok : CallT Tryz.prog 23 [.u (.i .i64 1000)] []
  fun r σ => r = .tup [.p 0 0, .u (.i .i64 0)] ∧ σ = [] ++ dsk [] [] [] := by
 unfold dsk dskC
 refine cof 16 [.tmp 2, .tmp 3] Tryz.func23 Tryz.ntmps23 fun c hnt hc0 => ?_
 refine sq fun _ k1 => rgn 0 ?_
 repeat refine ⟨sd, ?_⟩
 refine k1 (sq fun _ k2 => sq fun _ k3 => rgn 0 ?_)
 repeat refine ⟨sd, ?_⟩
 refine k3 (cd rfl (fun h1 => ?_) (fun h1 => ?_))
 ·exact absurd h1 (by simp)
 ·refine wps_skip (k2 (sq fun _ k4 => rgn 3 ?_))
  repeat refine ⟨sd, ?_⟩
  refine k4 ?_
  refine wps_ent (e' := [(2, .p 0 0), (3, .u (.i .i64 0))]) (σ' := [.cells [.u (.i .i64 1000), .u (.i .i64 1000), .h 1, .h 2, .h 3], .map [], .map [], .row 116 1 []]) ((ent_thawC 2 4 116 1 rfl rfl).trans (entL hc0 [some 2, some 0, some 1, some 3] rfl rfl mB (by simp only [go_sem, reduceIte, Nat.reduceEqDiff, List.cons_append, List.nil_append]))) ?_
  refine wps_ret ?_
  refine retL [some 0, some 1, some 2, some 3] mA mO rfl rfl ?_
  simp only [go_sem, and_true, true_and, implies_true, reduceIte, Nat.reduceEqDiff, Nat.reduceAdd, Nat.reduceLT, List.cons_append, List.nil_append, List.map_nil]

/-! ### plain facts about sectors -/
theorem sget_mem {k : Nat} {b : List UInt8} : ∀ {m : Sec}, sget k m = some b → (k, b) ∈ m
 | e :: es, h => by
  unfold sget at h
  by_cases hk : k = e.1
  ·rw [if_pos hk] at h; cases h; subst hk; exact List.mem_cons_self
  ·rw [if_neg hk] at h; exact List.mem_cons_of_mem _ (sget_mem h)
theorem sget_none {k : Nat} : ∀ {m : Sec}, k ∉ m.map Prod.fst → sget k m = none
 | [], _ => rfl
 | e :: es, h => by
  simp only [List.map_cons, List.mem_cons, not_or] at h
  rw [sget, if_neg h.1]; exact sget_none h.2
theorem sget_of_mem {k : Nat} {b : List UInt8} : ∀ {m : Sec}, (m.map Prod.fst).Nodup → (k, b) ∈ m → sget k m = some b
 | e :: es, hn, h => by
  simp only [List.map_cons, List.nodup_cons] at hn
  rcases List.mem_cons.1 h with rfl | h
  ·rw [sget, if_pos rfl]
  ·have : k ≠ e.1 := fun hk => hn.1 (hk ▸ List.mem_map.2 ⟨(k, b), h, rfl⟩)
   rw [sget, if_neg this]; exact sget_of_mem hn.2 h
theorem sget_perm {m m' : Sec} (hp : m'.Perm m) (hn : (m.map Prod.fst).Nodup) (k : Nat) : sget k m' = sget k m := by
 have hn' : (m'.map Prod.fst).Nodup := (hp.map Prod.fst).nodup_iff.2 hn
 cases h : sget k m with
 | some b => exact sget_of_mem hn' (hp.symm.subset (sget_mem h))
 | none =>
  cases h' : sget k m' with
  | none => rfl
  | some b => rw [sget_of_mem hn (hp.subset (sget_mem h'))] at h; cases h
theorem sget_sput (i k : Nat) (x : List UInt8) : ∀ m : Sec, sget i (sput k x m) = if i = k then some x else sget i m
 | [] => by simp only [sput, sget]
 | e :: es => by
  unfold sput
  by_cases hk : k = e.1
  ·rw [if_pos hk]
   simp only [sget]
   by_cases hi : i = k
   ·rw [if_pos hi, if_pos hi]
   ·rw [if_neg hi, if_neg hi, if_neg (by omega)]
  ·rw [if_neg hk]
   simp only [sget]
   by_cases hi : i = e.1
   ·rw [if_pos hi, if_pos hi, if_neg (by omega)]
   ·rw [if_neg hi, if_neg hi]; exact sget_sput i k x es
theorem mem_sput {k : Nat} {x : List UInt8} {p : Nat × List UInt8} : ∀ {m : Sec}, p ∈ sput k x m → p = (k, x) ∨ p ∈ m
 | [], h => by simp [sput] at h; exact .inl h
 | e :: es, h => by
  unfold sput at h
  by_cases hk : k = e.1
  ·rw [if_pos hk] at h
   rcases List.mem_cons.1 h with h | h
   ·exact .inl h
   ·exact .inr (List.mem_cons_of_mem _ h)
  ·rw [if_neg hk] at h
   rcases List.mem_cons.1 h with h | h
   ·exact .inr (h ▸ List.mem_cons_self)
   ·rcases mem_sput h with h | h
    ·exact .inl h
    ·exact .inr (List.mem_cons_of_mem _ h)
theorem sput_nodup {k : Nat} {x : List UInt8} : ∀ {m : Sec}, (m.map Prod.fst).Nodup → ((sput k x m).map Prod.fst).Nodup
 | [], _ => by simp [sput]
 | e :: es, h => by
  simp only [List.map_cons, List.nodup_cons] at h
  unfold sput
  by_cases hk : k = e.1
  ·rw [if_pos hk]
   simp only [List.map_cons, List.nodup_cons]
   exact ⟨hk ▸ h.1, h.2⟩
  ·rw [if_neg hk]
   simp only [List.map_cons, List.nodup_cons]
   refine ⟨fun hm => ?_, sput_nodup h.2⟩
   obtain ⟨p, hp, he⟩ := List.mem_map.1 hm
   rcases mem_sput hp with rfl | hp
   ·exact hk he
   ·exact h.1 (List.mem_map.2 ⟨p, hp, he⟩)
theorem sdel_sub (k : Nat) : ∀ m : Sec, (sdel k m).Sublist m
 | [] => List.Sublist.slnil
 | e :: es => by
  unfold sdel
  by_cases hk : k = e.1
  ·rw [if_pos hk]; exact List.sublist_cons_self _ _
  ·rw [if_neg hk]; exact (sdel_sub k es).cons₂ _
/-- sectors as a disk has them -/
def SecOK (m : Sec) : Prop := (m.map Prod.fst).Nodup ∧ ∀ p ∈ m, p.2.length ≤ 512
theorem SecOK.nil : SecOK [] := ⟨by simp, by simp⟩
theorem SecOK.perm {m m' : Sec} (h : SecOK m) (hp : m'.Perm m) : SecOK m' := ⟨(hp.map Prod.fst).nodup_iff.2 h.1, fun p hm => h.2 p (hp.subset hm)⟩
theorem SecOK.put {m : Sec} (h : SecOK m) (k : Nat) {x : List UInt8} (hx : x.length ≤ 512) : SecOK (sput k x m) :=
 ⟨sput_nodup h.1, fun p hm => by
 rcases mem_sput hm with rfl | hm
 ·exact hx
 ·exact h.2 p hm⟩
theorem SecOK.del {m : Sec} (h : SecOK m) (k : Nat) : SecOK (sdel k m) := ⟨h.1.sublist ((sdel_sub k m).map Prod.fst), fun p hm => h.2 p ((sdel_sub k m).subset hm)⟩
theorem SecOK.get {m : Sec} (h : SecOK m) (k : Nat) : (sgetD k m).length ≤ 512 := by
 unfold sgetD
 cases hg : sget k m with
 | none => simp
 | some b => exact h.2 _ (sget_mem hg)
theorem torn_len {n : Int} {b old : List UInt8} {M : Nat} (hb : b.length ≤ M) (ho : old.length ≤ M) : (torn n b old).length ≤ M := by
 unfold torn
 by_cases h : n.toNat < b.length
 ·rw [if_pos h]; simp; omega
 ·rw [if_neg h]; simp; omega

/-! ### a crash -/
def svget (i : Int) : List (Int × Int) → Option Int
 | [] => none
 | e :: r => if i = e.1 then some e.2 else svget i r
def iput (k x : Int) : List (Int × Int) → List (Int × Int)
 | [] => [(k, x)]
 | e :: r => if k = e.1 then (k, x) :: r else e :: iput k x r
def svrow (p : Int × Int) : List PV := [.i .i64 p.1, .i .i64 p.2]
def lent (p : Int × Int) : PV × PV := (.i .i64 p.1, .i .i64 p.2)
theorem beq_int (a b : Int) : ((a == b) = true) = (a = b) := by rw [beq_iff_eq]
theorem ifind (k : Int) : ∀ m : List (Int × Int), findPV (.i .i64 k) (m.map lent) = (svget k m).map fun n => .i .i64 n
 | [] => rfl
 | e :: es => by
  simp only [List.map_cons, findPV, lent, keyEq, if_true, svget, Option.some.injEq, beq_int]
  by_cases h : k = e.1
  ·rw [if_pos h, if_pos h]; rfl
  ·rw [if_neg h, if_neg h]; exact ifind k es
theorem iputE (k x : Int) : ∀ m : List (Int × Int), updPV (.i .i64 k) (.i .i64 x) (m.map lent) = (iput k x m).map lent
 | [] => rfl
 | e :: es => by
  simp only [List.map_cons, updPV, lent, keyEq, if_true, iput, Option.some.injEq, beq_int]
  by_cases h : k = e.1
  ·rw [if_pos h, if_pos h]; rfl
  ·rw [if_neg h, if_neg h, List.map_cons]; rw [iputE k x es]; rfl
theorem ikeys (k : Int) (m : List (Int × Int)) : keysOK (.i .i64 k) (m.map lent) := by
 intro e he
 obtain ⟨p, _, rfl⟩ := List.mem_map.1 he
 rfl
theorem svget_iput (i k x : Int) : ∀ m : List (Int × Int), svget i (iput k x m) = if i = k then some x else svget i m
 | [] => by simp only [iput, svget]
 | e :: es => by
  unfold iput
  by_cases hk : k = e.1
  ·rw [if_pos hk]
   simp only [svget]
   by_cases hi : i = k
   ·rw [if_pos hi, if_pos hi]
   ·rw [if_neg hi, if_neg hi, if_neg (by omega)]
  ·rw [if_neg hk]
   simp only [svget]
   by_cases hi : i = e.1
   ·rw [if_pos hi, if_pos hi, if_neg (by omega)]
   ·rw [if_neg hi, if_neg hi]; exact svget_iput i k x es

def crash1 (sv : List (Int × Int)) (i : Nat) (g : Sec) (w : Nat × List UInt8) : Sec :=
 match svget (i : Int) sv with
 | some n => sput w.1 (torn n w.2 (sgetD w.1 g)) g
 | none => g
/-- what a crash leaves: so many writes are done to what was synced, whole or torn -/
def crashG (sv : List (Int × Int)) : Nat → Sec → List (Nat × List UInt8) → Sec
 | _, g, [] => g
 | i, g, w :: r => crashG sv (i + 1) (crash1 sv i g w) r
def wrt (w : Nat × List UInt8) : Pend := (w.1, some w.2)
theorem wrt_row (P : List (Nat × List UInt8)) : (P.map wrt).map prow = P.map fun w => [.fn 169 [.fp [.fz (bs w.2) none], .fp [.i .i64 (w.1 : Int)]]] := by
 rw [List.map_map]; rfl
theorem wrt_at {P : List (Nat × List UInt8)} {i : Nat} (h : i < P.length) : (P.map fun w => [.fn 169 [.fp [.fz (bs w.2) none], .fp [.i .i64 (w.1 : Int)]]]).getD i [] = [PV.fn 169 [.fp [.fz (bs (P.getD i (0, [])).2) none], .fp [.i .i64 ((P.getD i (0, [])).1 : Int)]]] := by
 rw [List.getD_eq_getElem?_getD, List.getElem?_map, List.getElem?_eq_getElem h, List.getD_eq_getElem?_getD, List.getElem?_eq_getElem h]; rfl
theorem sv_at {l : List (Int × Int)} {i : Nat} (h : i < l.length) : (l.map svrow).getD i [] = [.i .i64 (l.getD i (0, 0)).1, .i .i64 (l.getD i (0, 0)).2] := by
 rw [List.getD_eq_getElem?_getD, List.getElem?_map, List.getElem?_eq_getElem h, List.getD_eq_getElem?_getD, List.getElem?_eq_getElem h]; rfl
theorem gdrop_cons {α : Type} {l : List α} {i : Nat} {d : α} (h : i < l.length) : l.drop i = l.getD i d :: l.drop (i + 1) := by
 rw [List.drop_eq_getElem_cons h, List.getD_eq_getElem?_getD, List.getElem?_eq_getElem h]; rfl

theorem crash_ok (v g : Sec) (P : List (Nat × List UInt8)) (sv : List (Int × Int)) (q : Option Nat) (hg : SecOK g) (hP : ∀ w ∈ P, w.2.length ≤ 512) (hPl : P.length ≤ 100000) (hs : sv.length ≤ 100000) : CallT Tryz.prog 20 [.p 0 0, .u (.fz (sv.map svrow) q)] (dsk v g (P.map wrt))
  fun r σ => ∃ v' : Sec, v'.Perm (crashG sv 0 g P) ∧ r = .tup [] ∧ σ = [.cells (dskC 4 2 5), .dead, .map ((crashG sv 0 g P).map sent), .dead] ++ [.map (v'.map sent), .row 116 1 []] := by
 obtain ⟨R, hR⟩ : ∃ R : List PV, R = R := ⟨[], rfl⟩
 have hw0 : IntKind.i64.wrap ((sv.length : Int) - 1) = (sv.length : Int) - 1 := wrap64 (by omega) (by omega)
 unfold dsk dskC
 rw [wrt_row]
 refine cof 65 [] Tryz.func20 Tryz.ntmps20 fun c hnt hc0 => ?_
 refine wps_post ?_
 refine sq fun _ k1 => rgn 1 ?_
 repeat refine ⟨sd, ?_⟩
 refine k1 (sq fun _ k2 => sq fun _ k3 => rg 0 ?_)
 refine evx hw0 ?_
 repeat refine ⟨sd, ?_⟩
 refine k3 (bk fun _ k4 => ?_)
 refine wps_loop (fun k e σ => ∃ (L : List (Int × Int)), k ≤ sv.length ∧ (∀ i, svget i L = svget i (sv.drop k)) ∧ e = [(0, .p 0 0), (1, .u (.fz (sv.map svrow) q)), (4, .h 4), (5, .u (.i .i64 ((k : Int) - 1)))] ∧ σ = [.cells [.u (.i .i64 1000), .u (.i .i64 1000), .h 1, .h 2, .h 3], .map (v.map sent), .map (g.map sent), .row 116 1 (P.map fun w => [.fn 169 [.fp [.fz (bs w.2) none], .fp [.i .i64 (w.1 : Int)]]]), .map (L.map lent)])
  (k0 := sv.length) (e0 := [(0, .p 0 0), (1, .u (.fz (sv.map svrow) q)), (4, .h 4), (5, .u (.i .i64 ((sv.length : Int) - 1)))]) (σ0 := [.cells [.u (.i .i64 1000), .u (.i .i64 1000), .h 1, .h 2, .h 3], .map (v.map sent), .map (g.map sent), .row 116 1 (P.map fun w => [.fn 169 [.fp [.fz (bs w.2) none], .fp [.i .i64 (w.1 : Int)]]]), .map []]) (entL hc0 [some 0, some 1, some 2, some 3, some 4] rfl rfl mB mB) ⟨[], Nat.le_refl _, by simp, rfl, rfl⟩ fun KL k e1 σ1 hI hKL => ?_
 obtain ⟨L, hkl, hL, rfl, rfl⟩ := hI
 refine sq fun _ k5 => sq fun _ k6 => rgn 0 ?_
 repeat refine ⟨sd, ?_⟩
 refine k6 (cd rfl (fun h1 => ?_) (fun h1 => ?_))
 ·have hk0 : 1 ≤ k := by simp at h1; omega
  obtain ⟨j, rfl⟩ : ∃ j, k = j + 1 := ⟨k - 1, by omega⟩
  have hjl : j < sv.length := by omega
  have hel := sv_at hjl
  have hdc := gdrop_cons (d := (0, 0)) hjl
  obtain ⟨⟨wi, ni⟩, hwn⟩ : ∃ p, sv.getD j (0, 0) = p := ⟨_, rfl⟩
  rw [hwn] at hel hdc
  have hje : ((j + 1 : Nat) : Int) - 1 = (j : Int) := by omega
  rw [hje]
  have hw1 : IntKind.i64.wrap ((j : Int) - 1) = (j : Int) - 1 := wrap64 (by omega) (by omega)
  have hkeys := ikeys wi L
  refine wps_skip (k5 (sq fun _ k7 => bk fun _ k8 => dr 0 [0, 0, 0, 6, 14, 30, 0, 0, 192, 448, 960, 2047] mixed ?_))
  refine evx2 hel @iputE ?_
  repeat refine ⟨sd, ?_⟩
  refine k8 (k7 (rg 0 ?_))
  refine evx hw1 ?_
  repeat refine ⟨sd, ?_⟩
  exact hKL _ _ j _ _ (entL hc0 [some 0, some 1, some 2, some 3, some 4] rfl rfl mB mB) ⟨iput wi ni L, by omega, fun i => by rw [svget_iput, hdc, hL]; rfl, rfl, rfl⟩ (by omega)
 ·have hk0 : k = 0 := by simp at h1; omega
  subst hk0
  rw [List.drop_zero] at hL
  refine wps_exit ?_
  simp only [reduceIte, Nat.reduceEqDiff]
  refine k4 (k2 (sq fun _ k9 => sq fun _ k10 => rgn 0 ?_))
  repeat refine ⟨sd, ?_⟩
  refine k10 (bk fun _ k11 => ?_)
  refine wps_loop (fun k e σ => ∃ (i : Nat) (G : Sec), k = P.length - i ∧ i ≤ P.length ∧ SecOK G ∧ crashG sv i G (P.drop i) = crashG sv 0 g P ∧ e = [(0, .p 0 0), (4, .h 4), (32, .h 3), (33, .u (.i .i64 (P.length : Int))), (34, .u (.i .i64 (i : Int)))] ∧ σ = [.cells [.u (.i .i64 1000), .u (.i .i64 1000), .h 1, .h 2, .h 3], .map (v.map sent), .map (G.map sent), .row 116 1 (P.map fun w => [.fn 169 [.fp [.fz (bs w.2) none], .fp [.i .i64 (w.1 : Int)]]]), .map (L.map lent)])
   (e0 := [(0, .p 0 0), (4, .h 4), (32, .h 3), (33, .u (.i .i64 (P.length : Int))), (34, .u (.i .i64 0))]) (σ0 := [.cells [.u (.i .i64 1000), .u (.i .i64 1000), .h 1, .h 2, .h 3], .map (v.map sent), .map (g.map sent), .row 116 1 (P.map fun w => [.fn 169 [.fp [.fz (bs w.2) none], .fp [.i .i64 (w.1 : Int)]]]), .map (L.map lent)]) (entL hc0 [some 0, some 1, some 2, some 3, some 4] rfl rfl mB mB) ⟨0, g, rfl, Nat.zero_le _, hg, rfl, rfl, rfl⟩ fun KL k e1 σ1 hI hKL => ?_
  obtain ⟨i, G, rfl, hi, hGo, hG, rfl, rfl⟩ := hI
  refine sq fun _ k12 => rgn 0 ?_
  repeat refine ⟨sd, ?_⟩
  refine k12 (sq fun _ k13 => cd rfl (fun h2 => ?_) (fun h2 => ?_))
  ·have hiP : i < P.length := by simpa using h2
   have hel := wrt_at hiP
   have hdc := gdrop_cons (d := (0, [])) hiP
   have hbl : (P.getD i (0, [])).2.length ≤ 512 := hP _ (getD_mem hiP)
   obtain ⟨⟨a, b⟩, hab⟩ : ∃ p, P.getD i (0, []) = p := ⟨_, rfl⟩
   rw [hab] at hel hdc hbl
   change b.length ≤ 512 at hbl
   have hw1 := wi1 i
   have hkeys := ikeys (i : Int) L
   have hGa := hGo.get a
   refine wps_skip (k13 (sq fun _ k14 => bk fun _ k15 => sq fun _ k16 => rg 0 ?_))
   refine evx hel ?_
   repeat refine ⟨sd, ?_⟩
   refine k16 (sq fun _ k17 => ?_)
   rcases hsv : svget (i : Int) sv with _ | n
   ·refine rg 0 ?_
    simp only [↓kOps_app, ↓evOps_nil, ↓evOps_cons, go_sem, Int.reduceAdd, Int.reduceBEq, Int.reduceEq, Int.reduceLE, Int.reduceLT, Int.reduceNe, Int.reduceSub, Int.reduceToNat, Nat.reduceAdd, Nat.reduceBEq, Nat.reduceEqDiff, Nat.reduceLT, Nat.reduceLeDiff, Nat.reduceMul, Nat.reduceSub, reduceCtorEq, reduceIte, ifind, hL, hsv, Option.isSome_some, Option.isSome_none]
    repeat refine ⟨sd, ?_⟩
    refine k17 (sq fun _ k18 => rgn 0 ?_)
    repeat refine ⟨sd, ?_⟩
    refine k18 (cd rfl (fun h3 => ?_) (fun h3 => ?_))
    ·exact absurd h3 (by simp)
    ·refine wps_skip (k15 (k14 (rg 0 ?_)))
     refine evx hw1 ?_
     repeat refine ⟨sd, ?_⟩
     exact hKL _ _ (P.length - (i + 1)) _ _ (entL hc0 [some 0, some 1, some 2, some 3, some 4] rfl rfl mB mB) ⟨i + 1, G, rfl, by omega, hGo, by rw [← hG, hdc, crashG, crash1, hsv], rfl, rfl⟩ (by omega)
   ·refine rg 0 ?_
    simp only [↓kOps_app, ↓evOps_nil, ↓evOps_cons, go_sem, Int.reduceAdd, Int.reduceBEq, Int.reduceEq, Int.reduceLE, Int.reduceLT, Int.reduceNe, Int.reduceSub, Int.reduceToNat, Nat.reduceAdd, Nat.reduceBEq, Nat.reduceEqDiff, Nat.reduceLT, Nat.reduceLeDiff, Nat.reduceMul, Nat.reduceSub, reduceCtorEq, reduceIte, ifind, hL, hsv, Option.isSome_some, Option.isSome_none]
    repeat refine ⟨sd, ?_⟩
    refine k17 (sq fun _ k19 => rgn 0 ?_)
    repeat refine ⟨sd, ?_⟩
    refine k19 (cd rfl (fun h3 => ?_) (fun h3 => ?_))
    ·refine rgn 0 ?_
     repeat refine ⟨sd, ?_⟩
     refine callT_at [2] [_] (wr1_ok G a b n (by omega) (by omega)) rfl rfl ⟨rfl, trivial⟩ mB mB rfl mR mR ?_
     refine evl ?_
     repeat refine ⟨sd, ?_⟩
     refine k15 (k14 (rg 0 ?_))
     refine evx hw1 ?_
     repeat refine ⟨sd, ?_⟩
     exact hKL _ _ (P.length - (i + 1)) _ _ (entL hc0 [some 0, some 1, some 2, some 3, some 4] rfl rfl mB mB) ⟨i + 1, sput a (torn n b (sgetD a G)) G, rfl, by omega, hGo.put _ (torn_len hbl hGa), by rw [← hG, hdc, crashG, crash1, hsv], rfl, rfl⟩ (by omega)
    ·exact absurd h3 (by simp)
  ·have hiP : i = P.length := by simp at h2; omega
   subst hiP
   rw [List.drop_length] at hG
   simp only [crashG] at hG
   have hcp := copied_ok G hGo.1 fun p hp => by have := hGo.2 p hp; omega
   refine wps_exit ?_
   simp only [reduceIte, Nat.reduceEqDiff]
   refine k11 (k9 (rgn 0 ?_))
   repeat refine ⟨sd, ?_⟩
   refine callT_atNE [2] [_] hcp rfl rfl ⟨rfl, trivial⟩ mB mB (fun _ => rfl) (fun g' hg' => ?_)
   refine fxl ?_
   refine evl ?_
   repeat refine ⟨sd, ?_⟩
   refine ⟨[], [.cells [.u (.i .i64 1000), .u (.i .i64 1000), .h 4, .h 2, .h 5], .dead, .map (G.map sent), .dead, .map (g'.map sent), .row 116 1 []], (ent_thawC 0 4 116 1 rfl rfl).trans (entL2 hc0 [some 0, none, some 2, none, some 5, some 6] rfl rfl mB (by simp only [go_sem, reduceIte, Nat.reduceEqDiff, List.cons_append, List.nil_append])), retL [some 0, some 1, some 2, some 3, some 4, some 5] rfl trivial rfl rfl ?_⟩
   rw [← hG]
   refine ⟨g', hg', ?_⟩
   exact mU

/-! ### a log on a disk -/
abbrev Seg := Nat × Nat × Nat
def segrow (s : Seg) : List PV := [.i .i64 (s.1 : Int), .i .u64 (s.2.1 : Int), .i .u64 (s.2.2 : Int)]
def logC (L : PV) (S : PV) (last synced : Nat) : List SV := [.p 1 0, .u (.i .i64 802), .u (.i .i64 8), .u (.i .i64 16), .u L, .u S, .u (.i .u64 (last : Int)), .u (.i .u64 (synced : Int))]
def applyW (v : Sec) (W : List (Nat × List UInt8)) : Sec := W.foldl (fun m w => sput w.1 w.2 m) v
def chunk (b : List UInt8) (k : Nat) : List UInt8 := (b.drop (512 * k)).take 512
def segW (i : Nat) (b : List UInt8) : Nat → Nat → List (Nat × List UInt8)
 | _, 0 => []
 | k, n + 1 => (802 + 16 * i + k, chunk b k) :: segW i b (k + 1) n
theorem segW_snoc (i : Nat) (b : List UInt8) : ∀ (n k : Nat), segW i b k (n + 1) = segW i b k n ++ [(802 + 16 * i + (k + n), chunk b (k + n))]
 | 0, k => by simp [segW]
 | n + 1, k => by
  rw [segW, segW_snoc i b n (k + 1), segW, List.cons_append, show k + 1 + n = k + (n + 1) by omega]
theorem segW_len (i : Nat) (b : List UInt8) : ∀ (n k : Nat), (segW i b k n).length = n
 | 0, k => rfl
 | n + 1, k => by simp [segW, segW_len i b n]
theorem applyW_app (v : Sec) (a b : List (Nat × List UInt8)) : applyW v (a ++ b) = applyW (applyW v a) b := by simp [applyW]
theorem chunk_len (b : List UInt8) (k : Nat) : (chunk b k).length ≤ 512 := by simp [chunk]; omega

/-- sectors that stand where the log stands -/
def LogSec (v : Sec) : Prop := SecOK v ∧ ∀ p ∈ v, 802 ≤ p.1 ∧ p.1 < 930
theorem LogSec.put {v : Sec} (h : LogSec v) (k : Nat) (hk : 802 ≤ k ∧ k < 930) {x : List UInt8} (hx : x.length ≤ 512) : LogSec (sput k x v) :=
 ⟨h.1.put k hx, fun p hm => by
  rcases mem_sput hm with rfl | hm
  ·exact hk
  ·exact h.2 p hm⟩
theorem LogSec.perm {m m' : Sec} (h : LogSec m) (hp : m'.Perm m) : LogSec m' := ⟨h.1.perm hp, fun p hm => h.2 p (hp.subset hm)⟩
theorem nodup_len {a : Nat} : ∀ {n : Nat} {l : List Nat}, l.Nodup → (∀ x ∈ l, a ≤ x ∧ x < a + n) → l.length ≤ n
 | 0, l, _, h => by
  cases l with
  | nil => simp
  | cons x r => have := h x (by simp); omega
 | n + 1, l, hn, h => by
  by_cases hm : a + n ∈ l
  ·have h1 := nodup_len (a := a) (n := n) (hn.erase (a + n)) fun x hx => by
    have h2 := (hn.mem_erase_iff).1 hx
    have h3 := h x h2.2
    have h4 := h2.1
    omega
   have h2 := List.length_erase_of_mem hm
   omega
  ·have h1 := nodup_len (a := a) (n := n) hn fun x hx => by
    have h3 := h x hx
    have : x ≠ a + n := fun e => hm (e ▸ hx)
    omega
   omega
theorem LogSec.len {v : Sec} (h : LogSec v) : v.length ≤ 128 := by
 have := nodup_len (a := 802) (n := 128) h.1.1 fun x hx => by
  obtain ⟨p, hp, rfl⟩ := List.mem_map.1 hx
  exact h.2 p hp
 simpa using this
theorem LogSec.apply : ∀ (W : List (Nat × List UInt8)) {v : Sec}, LogSec v → (∀ w ∈ W, (802 ≤ w.1 ∧ w.1 < 930) ∧ w.2.length ≤ 512) → LogSec (applyW v W)
 | [], _, h, _ => h
 | w :: W, v, h, hw => LogSec.apply W (h.put w.1 (hw w (by simp)).1 (hw w (by simp)).2) fun x hx => hw x (by simp [hx])
theorem segW_ok {i : Nat} (hi : i < 8) (b : List UInt8) : ∀ (n k : Nat), k + n ≤ 16 → ∀ w ∈ segW i b k n, (802 ≤ w.1 ∧ w.1 < 930) ∧ w.2.length ≤ 512
 | 0, k, _, w, hw => by simp [segW] at hw
 | n + 1, k, hk, w, hw => by
  rw [segW] at hw
  rcases List.mem_cons.1 hw with rfl | hw
  ·exact ⟨by simp only; omega, chunk_len b k⟩
  ·exact segW_ok hi b n (k + 1) (by omega) w hw

def wlg (L S : PV) (last synced : Nat) (v g : Sec) (P : List Pend) : List SObj := [.cells (logC L S last synced), .cells (dskC 2 3 4), .map (v.map sent), .map (g.map sent), .row 116 1 (P.map prow)]
/-- behind a call that has written -/
def wlgN (L S : PV) (last synced : Nat) (v g : Sec) (P : List Pend) : List SObj := [.cells (logC L S last synced), .cells (dskC 2 3 5), .map (v.map sent), .map (g.map sent), .dead] ++ [.row 116 1 (P.map prow)]

theorem put_ok (L S : PV) (last synced : Nat) (v g : Sec) (P : List Pend) (i k0 fr M : Nat) (b : List UInt8) (q : Option Nat) (hi : i < 8) (hb : b.length ≤ 8192) (hM : M = (b.length + 511) / 512) (hk : k0 = fr / 512) (hkM : k0 ≤ M) (hf : fr ≤ 8192) (hv : LogSec v) (hP : P.length ≤ 10000) : CallT Tryz.prog 99 [.p 0 0, .u (.i .i64 (i : Int)), .u (.i .i64 (fr : Int)), .u (.fz (bs b) q)] (wlg L S last synced v g P)
  fun r σ => r = .u (.i .i64 0) ∧ σ = wlgN L S last synced (applyW v (segW i b k0 (M - k0))) g (P ++ (segW i b k0 (M - k0)).map wrt) := by
 have hM16 : M ≤ 16 := by omega
 have hq : Int.tdiv (fr : Int) 512 = (k0 : Int) := by rw [hk]; exact (Int.ofNat_tdiv fr 512).symm
 have hwk0 : IntKind.i64.wrap (k0 : Int) = (k0 : Int) := wrap64 (by omega) (by omega)
 unfold wlg wlgN logC dskC
 refine cof 53 [.tmp 8] Tryz.func99 Tryz.ntmps99 fun c hnt hc0 => ?_
 refine sq fun _ k1 => rgn 0 ?_
 repeat refine ⟨sd, ?_⟩
 refine k1 (sq fun _ k2 => sq fun _ k3 => rg 0 ?_)
 refine evx2 hq hwk0 ?_
 repeat refine ⟨sd, ?_⟩
 refine k3 (bk fun _ k4 => ?_)
 refine wps_loop (fun m e σ => ∃ n : Nat, m = M - (k0 + n) ∧ k0 + n ≤ M ∧ e = [(0, .p 0 0), (1, .u (.i .i64 (i : Int))), (3, .u (.fz (bs b) q)), (9, .u (.i .i64 ((k0 + n : Nat) : Int)))] ∧ σ = [.cells [.p 1 0, .u (.i .i64 802), .u (.i .i64 8), .u (.i .i64 16), .u L, .u S, .u (.i .u64 (last : Int)), .u (.i .u64 (synced : Int))], .cells [.u (.i .i64 1000), .u (.i .i64 1000), .h 2, .h 3, .h 5], .map ((applyW v (segW i b k0 n)).map sent), .map (g.map sent), .dead, .row 116 1 ((P ++ (segW i b k0 n).map wrt).map prow)])
  (e0 := [(0, .p 0 0), (1, .u (.i .i64 (i : Int))), (3, .u (.fz (bs b) q)), (9, .u (.i .i64 (k0 : Int)))]) (σ0 := [.cells [.p 1 0, .u (.i .i64 802), .u (.i .i64 8), .u (.i .i64 16), .u L, .u S, .u (.i .u64 (last : Int)), .u (.i .u64 (synced : Int))], .cells [.u (.i .i64 1000), .u (.i .i64 1000), .h 2, .h 3, .h 5], .map (v.map sent), .map (g.map sent), .dead, .row 116 1 (P.map prow)])
  (entL2 hc0 [some 0, some 1, some 2, some 3, none, some 4] rfl rfl mB mB) ⟨0, rfl, by omega, rfl, by simp [segW, applyW]⟩ fun KL m e1 σ1 hI hKL => ?_
 obtain ⟨n, rfl, hn, rfl, rfl⟩ := hI
 have hwm : IntKind.i64.wrap (((k0 + n : Nat) : Int) * 512) = ((512 * (k0 + n) : Nat) : Int) := by rw [wrap64 (by omega) (by omega)]; omega
 refine sq fun _ k5 => sq fun _ k6 => rg 0 ?_
 refine evx hwm ?_
 repeat refine ⟨sd, ?_⟩
 refine k6 (cd rfl (fun h1 => ?_) (fun h1 => ?_))
 ·have hlt : 512 * (k0 + n) < b.length := by simp at h1; omega
  obtain ⟨hiN, hhi⟩ : ∃ hiN, min (512 * (k0 + n + 1)) b.length = hiN := ⟨_, rfl⟩
  have hw1 : IntKind.i64.wrap (((k0 + n : Nat) : Int) + 1) = ((k0 + n + 1 : Nat) : Int) := by rw [wrap64 (by omega) (by omega)]; omega
  have hw2 : IntKind.i64.wrap (((k0 + n + 1 : Nat) : Int) * 512) = ((512 * (k0 + n + 1) : Nat) : Int) := by rw [wrap64 (by omega) (by omega)]; omega
  have hw3 : min ((512 * (k0 + n + 1) : Nat) : Int) (b.length : Int) = (hiN : Int) := by omega
  have hx1 : IntKind.i64.wrap ((i : Int) * 16) = ((16 * i : Nat) : Int) := by rw [wrap64 (by omega) (by omega)]; omega
  have hx2 : IntKind.i64.wrap (802 + ((16 * i : Nat) : Int)) = ((802 + 16 * i : Nat) : Int) := by rw [wrap64 (by omega) (by omega)]; omega
  have hx3 : IntKind.i64.wrap (((802 + 16 * i : Nat) : Int) + ((k0 + n : Nat) : Int)) = ((802 + 16 * i + (k0 + n) : Nat) : Int) := by rw [wrap64 (by omega) (by omega)]; omega
  have hch : (b.take hiN).drop (512 * (k0 + n)) = chunk b (k0 + n) := by
   rw [chunk, List.drop_take]
   by_cases h : 512 * (k0 + n + 1) ≤ b.length
   ·rw [show hiN - 512 * (k0 + n) = 512 by omega]
   ·rw [List.take_of_length_le (by simp; omega), List.take_of_length_le (by simp; omega)]
  have hvv : LogSec (applyW v (segW i b k0 n)) := LogSec.apply _ hv (segW_ok hi b n k0 (by omega))
  have hd := dwrite_ok (applyW v (segW i b k0 n)) g (P ++ (segW i b k0 n).map wrt) (802 + 16 * i + (k0 + n)) (chunk b (k0 + n)) (Option.map (fun x => x - 512 * (k0 + n)) q) (by omega) (chunk_len _ _) (by have := hvv.len; omega) (hvv.1.get _) (by simp [segW_len]; omega)
  simp only [dsk, dskC, List.cons_append, List.nil_append] at hd
  refine wps_skip (k5 (sq fun _ k7 => bk fun _ k8 => sq fun _ k9 => rg 0 ?_))
  refine evx3 hw1 hw2 hw3 ?_
  repeat refine ⟨sd, ?_⟩
  refine k9 (sq fun _ k10 => dr 1 [0, 1, 3, 7, 0, 16, 48, 112, 0, 0, 512, 1536, 3584, 7936, 16368, 0, 65520, 0, 0, 262144, 0, 1966080, 4194303, 8388607] mixed ?_)
  simp only [↓kOps_app, ↓evOps_nil, ↓evOps_cons, go_sem, Int.reduceAdd, Int.reduceBEq, Int.reduceEq, Int.reduceLE, Int.reduceLT, Int.reduceNe, Int.reduceSub, Int.reduceToNat, Nat.reduceAdd, Nat.reduceBEq, Nat.reduceEqDiff, Nat.reduceLT, Nat.reduceLeDiff, Nat.reduceMul, Nat.reduceSub, reduceCtorEq, reduceIte, hx1, hx2, hx3, hwm, bs_take, bs_drop, hch]
  repeat refine ⟨sd, ?_⟩
  refine callE_N [1, 2, 3, 5] [_, _, _, _] [6] hd rfl rfl ⟨rfl, rfl, rfl, rfl, rfl, trivial⟩ mB mB rfl mR mR ?_
  simp only [↓kOps_app, ↓evOps_nil, ↓evOps_cons, go_sem, Int.reduceAdd, Int.reduceBEq, Int.reduceEq, Int.reduceLE, Int.reduceLT, Int.reduceNe, Int.reduceSub, Int.reduceToNat, Nat.reduceAdd, Nat.reduceBEq, Nat.reduceEqDiff, Nat.reduceLT, Nat.reduceLeDiff, Nat.reduceMul, Nat.reduceSub, reduceCtorEq, reduceIte, hx1, hx2, hx3, hwm, bs_take, bs_drop, hch]
  repeat refine ⟨sd, ?_⟩
  refine k10 (sq fun _ k11 => rgn 0 ?_)
  repeat refine ⟨sd, ?_⟩
  refine k11 (cd rfl (fun h2 => ?_) (fun h2 => ?_))
  ·exact absurd h2 (by simp)
  ·refine wps_skip (k8 (k7 (rg 0 ?_)))
   refine evx hw1 ?_
   repeat refine ⟨sd, ?_⟩
   have hkn : k0 + (n + 1) = k0 + n + 1 := by omega
   have hs1 : applyW v (segW i b k0 (n + 1)) = sput (802 + 16 * i + (k0 + n)) (chunk b (k0 + n)) (applyW v (segW i b k0 n)) := by rw [segW_snoc, applyW_app]; rfl
   have hs2 : (segW i b k0 (n + 1)).map wrt = (segW i b k0 n).map wrt ++ [(802 + 16 * i + (k0 + n), some (chunk b (k0 + n)))] := by rw [segW_snoc, List.map_append]; rfl
   exact hKL _ _ (M - (k0 + (n + 1))) _ [.cells [.p 1 0, .u (.i .i64 802), .u (.i .i64 8), .u (.i .i64 16), .u L, .u S, .u (.i .u64 (last : Int)), .u (.i .u64 (synced : Int))], .cells [.u (.i .i64 1000), .u (.i .i64 1000), .h 2, .h 3, .h 5], .map ((applyW v (segW i b k0 (n + 1))).map sent), .map (g.map sent), .dead, .row 116 1 ((P ++ (segW i b k0 (n + 1)).map wrt).map prow)] (entL2 hc0 [some 0, some 1, some 2, some 3, none, some 6] rfl rfl (by simp only [go_sem, reduceIte, Nat.reduceEqDiff, Nat.reduceAdd, Nat.reduceLT, hkn]) (by rw [hs1, hs2]; simp only [go_sem, reduceIte, Nat.reduceEqDiff, Nat.reduceAdd, Nat.reduceLT])) ⟨n + 1, rfl, by omega, rfl, rfl⟩ (by omega)
 ·have hnM : k0 + n = M := by simp at h1; omega
  have hnM2 : M - k0 = n := by omega
  refine wps_exit ?_
  simp only [reduceIte, Nat.reduceEqDiff]
  refine k4 (k2 (sq fun _ k12 => rgn 0 ?_))
  repeat refine ⟨sd, ?_⟩
  refine k12 (wps_ret ?_)
  refine retL [some 0, some 1, some 2, some 3, some 4, some 5] rfl ⟨trivial, trivial⟩ rfl rfl ?_
  simp only [go_sem, and_true, true_and, implies_true, reduceIte, Nat.reduceEqDiff, Nat.reduceAdd, Nat.reduceLT, List.cons_append, List.nil_append, hnM2]

/-! ### a segment's bytes, a segment given back -/
def segB (v : Sec) (i : Nat) : Nat → Nat → List UInt8
 | _, 0 => []
 | k, n + 1 => match sget (802 + 16 * i + k) v with
  | none => []
  | some b => b ++ (if b.length < 512 then [] else segB v i (k + 1) n)
theorem segB_len {v : Sec} (h : SecOK v) (i : Nat) : ∀ (n k : Nat), (segB v i k n).length ≤ 512 * n
 | 0, k => by simp [segB]
 | n + 1, k => by
  rw [segB]
  cases hg : sget (802 + 16 * i + k) v with
  | none => simp
  | some b =>
   have hb : b.length ≤ 512 := h.2 _ (sget_mem hg)
   have := segB_len h i n (k + 1)
   simp only
   by_cases hl : b.length < 512
   ·rw [if_pos hl]; simp; omega
   ·rw [if_neg hl, List.length_append]; omega

theorem bytes_ok (L S : PV) (last synced : Nat) (v g : Sec) (P : List Pend) (i : Nat) (hi : i < 8) (hv : SecOK v) : CallT Tryz.prog 112 [.p 0 0, .u (.i .i64 (i : Int))] (wlg L S last synced v g P)
  fun r σ => r = .u (.fz (bs (segB v i 0 16)) none) ∧ σ = wlg L S last synced v g P := by
 obtain ⟨B, hB⟩ : ∃ B, segB v i 0 16 = B := ⟨_, rfl⟩
 have hBl : B.length ≤ 8192 := by rw [← hB]; exact segB_len hv i 16 0
 rw [hB]
 unfold wlg logC dskC
 refine cof 47 [.tmp 4] Tryz.func112 Tryz.ntmps112 fun c hnt hc0 => ?_
 refine sq fun _ k1 => rgn 0 ?_
 repeat refine ⟨sd, ?_⟩
 refine k1 (sq fun _ k2 => rgn 0 ?_)
 repeat refine ⟨sd, ?_⟩
 refine k2 (sq fun _ k3 => sq fun _ k4 => rgn 0 ?_)
 repeat refine ⟨sd, ?_⟩
 refine k4 (bk fun _ k5 => ?_)
 refine wps_loop (fun m e σ => ∃ (k : Nat) (o : List UInt8), m = 16 - k ∧ k ≤ 16 ∧ o ++ segB v i k (16 - k) = B ∧ e = [(0, .p 0 0), (1, .u (.i .i64 (i : Int))), (5, .h 5), (12, .u (.i .i64 16)), (13, .u (.i .i64 (k : Int)))] ∧ σ = [.cells [.p 1 0, .u (.i .i64 802), .u (.i .i64 8), .u (.i .i64 16), .u L, .u S, .u (.i .u64 (last : Int)), .u (.i .u64 (synced : Int))], .cells [.u (.i .i64 1000), .u (.i .i64 1000), .h 2, .h 3, .h 4], .map (v.map sent), .map (g.map sent), .row 116 1 (P.map prow), .row 5 1 (bs o)])
  (e0 := [(0, .p 0 0), (1, .u (.i .i64 (i : Int))), (5, .h 5), (12, .u (.i .i64 16)), (13, .u (.i .i64 0))]) (σ0 := [.cells [.p 1 0, .u (.i .i64 802), .u (.i .i64 8), .u (.i .i64 16), .u L, .u S, .u (.i .u64 (last : Int)), .u (.i .u64 (synced : Int))], .cells [.u (.i .i64 1000), .u (.i .i64 1000), .h 2, .h 3, .h 4], .map (v.map sent), .map (g.map sent), .row 116 1 (P.map prow), .row 5 1 []])
  ((ent_thaw 5 1 (t := 5) rfl).trans (entL hc0 [some 0, some 1, some 2, some 3, some 4, some 5] rfl rfl mB mB)) ⟨0, [], rfl, by omega, by rw [← hB]; rfl, rfl, rfl⟩ fun KL m e1 σ1 hI hKL => ?_
 obtain ⟨k, o, rfl, hk, ho, rfl, rfl⟩ := hI
 have hol : o.length ≤ 8192 := by
  have := congrArg List.length ho
  rw [List.length_append] at this; omega
 refine sq fun _ k6 => rgn 0 ?_
 repeat refine ⟨sd, ?_⟩
 refine k6 (sq fun _ k7 => cd rfl (fun h1 => ?_) (fun h1 => ?_))
 ·have hlt : k < 16 := by simp at h1; omega
  have hw1 := wi1 k
  have hx1 : IntKind.i64.wrap ((i : Int) * 16) = ((16 * i : Nat) : Int) := by rw [wrap64 (by omega) (by omega)]; omega
  have hx2 : IntKind.i64.wrap (802 + ((16 * i : Nat) : Int)) = ((802 + 16 * i : Nat) : Int) := by rw [wrap64 (by omega) (by omega)]; omega
  have hx3 : IntKind.i64.wrap (((802 + 16 * i : Nat) : Int) + (k : Int)) = ((802 + 16 * i + k : Nat) : Int) := by rw [wrap64 (by omega) (by omega)]; omega
  rw [show 16 - k = (16 - (k + 1)) + 1 by omega, segB] at ho
  refine wps_skip (k7 (sq fun _ k8 => bk fun _ k9 => sq fun _ k10 => rgn 0 ?_))
  repeat refine ⟨sd, ?_⟩
  refine k10 (sq fun _ k11 => ?_)
  rcases hsg : sget (802 + 16 * i + k) v with _ | b
  ·rw [hsg] at ho
   simp only [List.append_nil] at ho
   have hd := dread_none v g P _ hsg
   simp only [dsk, dskC] at hd
   refine dr 0 [0, 1, 3, 7, 0, 16, 48, 112, 0, 0, 512, 1536, 3584, 7936, 16368, 0, 65520, 131071, 262143, 524287, 524287, 1048575, 4194303] mixed ?_
   refine evx3 hx1 hx2 hx3 ?_
   repeat refine ⟨sd, ?_⟩
   refine callE_at [1, 2, 3, 4] [_, _, _, _] hd rfl rfl ⟨rfl, rfl, rfl, rfl, trivial⟩ mB mB rfl mR mR ?_
   refine evx3 hx1 hx2 hx3 ?_
   repeat refine ⟨sd, ?_⟩
   refine k11 (sq fun _ k12 => sq fun _ k13 => rgn 0 ?_)
   repeat refine ⟨sd, ?_⟩
   refine k13 (cd rfl (fun h2 => ?_) (fun h2 => ?_))
   ·refine wps_exit ?_
    simp only [reduceIte, Nat.reduceEqDiff]
    refine k5 (k3 (sq fun _ k14 => rgn 0 ?_))
    repeat refine ⟨sd, ?_⟩
    refine k14 ?_
    subst ho
    refine wps_ent (e' := [(4, .u (.fz (bs o) none))]) (σ' := [.cells [.p 1 0, .u (.i .i64 802), .u (.i .i64 8), .u (.i .i64 16), .u L, .u S, .u (.i .u64 (last : Int)), .u (.i .u64 (synced : Int))], .cells [.u (.i .i64 1000), .u (.i .i64 1000), .h 2, .h 3, .h 4], .map (v.map sent), .map (g.map sent), .row 116 1 (P.map prow)]) ((entF 5 rfl (e' := [(4, .u (.fz (bs o) none))]) mB rfl).trans (entL hc0 [some 0, some 1, some 2, some 3, some 4] rfl rfl mB mB)) ?_
    refine wps_ret ?_
    refine retL [some 0, some 1, some 2, some 3, some 4] rfl ⟨trivial, trivial⟩ rfl rfl ?_
    exact mT
   ·exact absurd h2 (by simp)
  ·rw [hsg] at ho
   simp only at ho
   have hbl : b.length ≤ 512 := hv.2 _ (sget_mem hsg)
   have hd := dread_some v g P _ b (by omega) hsg
   simp only [dsk, dskC] at hd
   refine dr 0 [0, 1, 3, 7, 0, 16, 48, 112, 0, 0, 512, 1536, 3584, 7936, 16368, 0, 65520, 131071, 262143, 524287, 524287, 1048575, 4194303] mixed ?_
   refine evx3 hx1 hx2 hx3 ?_
   repeat refine ⟨sd, ?_⟩
   refine callE_at [1, 2, 3, 4] [_, _, _, _] hd rfl rfl ⟨rfl, rfl, rfl, rfl, trivial⟩ mB mB rfl mR mR ?_
   refine evx3 hx1 hx2 hx3 ?_
   repeat refine ⟨sd, ?_⟩
   refine k11 (sq fun _ k15 => sq fun _ k16 => rgn 0 ?_)
   repeat refine ⟨sd, ?_⟩
   refine k16 (cd rfl (fun h2 => ?_) (fun h2 => ?_))
   ·exact absurd h2 (by simp)
   ·refine wps_skip (k15 (sq fun _ k17 => rg 1 ?_))
    refine evx @bs_app ?_
    repeat refine ⟨sd, ?_⟩
    refine k17 (sq fun _ k18 => rgn 0 ?_)
    repeat refine ⟨sd, ?_⟩
    refine k18 (cd rfl (fun h3 => ?_) (fun h3 => ?_))
    ·have hs : b.length < 512 := by simp at h3; omega
     rw [if_pos hs, List.append_nil] at ho
     refine wps_exit ?_
     simp only [reduceIte, Nat.reduceEqDiff]
     refine k5 (k3 (sq fun _ k19 => rgn 0 ?_))
     repeat refine ⟨sd, ?_⟩
     refine k19 ?_
     subst ho
     refine wps_ent (e' := [(4, .u (.fz (bs (o ++ b)) none))]) (σ' := [.cells [.p 1 0, .u (.i .i64 802), .u (.i .i64 8), .u (.i .i64 16), .u L, .u S, .u (.i .u64 (last : Int)), .u (.i .u64 (synced : Int))], .cells [.u (.i .i64 1000), .u (.i .i64 1000), .h 2, .h 3, .h 4], .map (v.map sent), .map (g.map sent), .row 116 1 (P.map prow)]) ((entF 6 rfl (e' := [(4, .u (.fz (bs (o ++ b)) none))]) mB rfl).trans (entL hc0 [some 0, some 1, some 2, some 3, some 4] rfl rfl mB mB)) ?_
     refine wps_ret ?_
     refine retL [some 0, some 1, some 2, some 3, some 4] rfl ⟨trivial, trivial⟩ rfl rfl ?_
     exact mT
    ·have hs : ¬ b.length < 512 := by simp at h3; omega
     rw [if_neg hs, ← List.append_assoc] at ho
     refine wps_skip (k9 (k8 (rg 0 ?_)))
     refine evx hw1 ?_
     repeat refine ⟨sd, ?_⟩
     exact hKL _ _ (16 - (k + 1)) _ _ (entL hc0 [some 0, some 1, some 2, some 3, some 4, some 6] rfl rfl mB mB) ⟨k + 1, o ++ b, rfl, by omega, ho, rfl, rfl⟩ (by omega)
 ·have hk16 : k = 16 := by simp at h1; omega
  subst hk16
  simp only [Nat.sub_self, segB, List.append_nil] at ho
  refine wps_exit ?_
  simp only [reduceIte, Nat.reduceEqDiff]
  refine k5 (k3 (sq fun _ k20 => rgn 0 ?_))
  repeat refine ⟨sd, ?_⟩
  refine k20 ?_
  subst ho
  refine wps_ent (e' := [(4, .u (.fz (bs o) none))]) (σ' := [.cells [.p 1 0, .u (.i .i64 802), .u (.i .i64 8), .u (.i .i64 16), .u L, .u S, .u (.i .u64 (last : Int)), .u (.i .u64 (synced : Int))], .cells [.u (.i .i64 1000), .u (.i .i64 1000), .h 2, .h 3, .h 4], .map (v.map sent), .map (g.map sent), .row 116 1 (P.map prow)]) ((entF 5 rfl (e' := [(4, .u (.fz (bs o) none))]) mB rfl).trans (entL hc0 [some 0, some 1, some 2, some 3, some 4] rfl rfl mB mB)) ?_
  refine wps_ret ?_
  refine retL [some 0, some 1, some 2, some 3, some 4] rfl ⟨trivial, trivial⟩ rfl rfl ?_
  exact mT
end Go.Proofs.YtefipnajpabfgaaGreatDoor
