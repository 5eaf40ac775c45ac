/- Part 17 of the proof: what functions of the program do, and plain facts on what they compute. -/
import Derived.Test.YtefipnajpabfgaaGreatDoorP16
set_option linter.all false
set_option maxRecDepth 40000
set_option maxHeartbeats 16000000
set_option linter.unusedSimpArgs false
set_option linter.unusedVariables false
namespace Go.Proofs.YtefipnajpabfgaaGreatDoor
open Go.Nm

/-! ### a slice written out that grows later: a row from the start -/
theorem op_buildRow {P : Program} {o : Oper} {g : Operand → SV} {t T : TypeId} {len N sz : Nat} {parts : Array (Nat × Operand)} (ho : o.op = .buildSlice t len parts) {ob : Prop} {rd : List (Nat × SObj)} {els : List (List PV)} {q : Option Nat} {wr : List (Nat × SObj)} {ti eti : TI}
  (ht : tiOf P t = some ti) (hk : ti.kind = .slice T) (het : tiOf P T = some eti) (hsz : eti.size = sz) (he : evBuildSlice P t len (parts.toList.map fun p => (p.1, g p.2)) = .ok ob rd (.u (.fz els q)) wr) (hob : ob) : OpR P o g [(N, .unborn)] (.h N) [(N, .row T sz els)] := by
 subst hsz
 have hu := slice_of ht hk
 unfold evBuildSlice at he
 rw [ht] at he
 simp only [hk, het] at he
 split at he <;> try cases he
 rename_i eti' els' hq hpur
 cases hq
 obtain ⟨q1, q2, q3, q4, q5, q6, q7⟩ := hob
 intro w0 ω0 β Φ ω σ w ρ hR hg hrd
 have hN := hrd N .unborn (by simp)
 obtain ⟨it, d, z, h1, h2, h3, h4, h5, h6, h7, h8⟩ := tiOf_inv het
 have hzl : z.cells.size = eti.size := by have := (pvs_ok (Φ := Φ) h4).1; simp at this; omega
 have hrel : ∀ (j : Nat) x v, (parts.toList.map fun p => (p.1, g p.2))[j]? = some x → ((parts.map fun (i, x) => (i, ρ x)).toList)[j]? = some v → x.1 = v.1 ∧ V β Φ x.2 v.2 := by
  intro j x v hx hv
  rw [List.getElem?_map] at hx
  obtain ⟨p, hp, rfl⟩ := Option.map_eq_some_iff.1 hx
  rw [Array.toList_map, List.getElem?_map, hp] at hv
  cases hv
  exact ⟨rfl, hg _⟩
 let zz : Array Value := if len * eti.size = 0 then #[] else z.cells
 obtain ⟨cells', e1, e2, _, e4⟩ := fill_seq (β := β) (Φ := Φ) q3 _ _ els 0 ((Array.range (len * eti.size)).map (zz[· % zz.size]!)) (by simp) hrel q1 hpur q6 q7 (by rw [Array.size_map, Array.size_range, Nat.zero_add, q2]; exact Nat.le_refl _)
 have hlen : els.length = len := by have := (purEls_ok hpur).1; omega
 obtain ⟨ω', β', r1, r2, r3, r4⟩ := row_grown (P := P) hR hN (e := T) (size := eti.size) (cap := len) (els := els) (cs := cells') (by rw [e2]; simp) (by omega) (by unfold maxLen; have := Nat.le_mul_of_pos_right len q3; omega) q6 (fun i x j p u g1 g2 g3 => e4 i x j p u g1 g2 (by simpa using g3))
 refine ⟨_, .slice (some ⟨w.heap.size, 0, none⟩) len len, w.alloc (.cells cells' T), β', Φ, ω', ?_, .inl rfl, r1, r2, Fz.le_refl _, by rw [← hlen] at r3 ⊢; exact r3, r4⟩
 have hlim : ¬ (16777216 < len * eti.size) := by omega
 simp only [execOp, ho, Instr.buildSlice, Sem.run_bind, run_underlying hu, Result.andThen_ok, Nm.run_sizeOf het, Sem.run_ite]
 rw [if_neg (by omega)]
 by_cases hz0 : len * eti.size = 0
 ·simp only [hz0, if_true, Sem.run_pure, Result.andThen_ok]
  have e1' := e1
  simp only [zz, hz0, if_true] at e1'
  simp only [e1', Sem.run_pure, Result.andThen_ok, newRow, Sem.run_bind, run_newObj]
  rfl
 ·simp only [hz0, if_false, Sem.run_bind, zeroValue, typeInfo, run_program, Result.andThen_ok, h1, Sem.run_pure, h3]
  have e1' := e1
  simp only [zz, hz0, if_false] at e1'
  simp only [e1', Sem.run_pure, Result.andThen_ok, newRow, Sem.run_bind, run_newObj]
  rfl

theorem evOps_pre {P : Program} {c : Cx} {ops : Array Oper} (hsl : ∀ j s, slotOf ops j = some s → s < c.nt) {K K' : Env → List SObj → Prop} : ∀ (os tl : List Oper) (k : Nat) (e : Env) (σ : List SObj) (N : Nat), ops.toList.drop k = os ++ tl →
  evOps P (slotOf ops) os e σ N K → (∀ e' σ', K e' σ' → OpsS P c ops ((List.range ops.size).drop (k + os.length)) e' σ' K') → OpsS P c ops ((List.range ops.size).drop k) e σ K'
 | [], tl, k, e, σ, N, hd, h, hr => by simpa using hr e σ h
 | o :: os, tl, k, e, σ, N, hd, h, hr => by
  have hk : k < ops.size := by
   have := congrArg List.length hd
   simp at this; omega
  have e1 : (List.range ops.size).drop k = k :: (List.range ops.size).drop (k + 1) := by
   rw [List.drop_eq_getElem_cons (by simpa using hk)]; simp
  have ho : ops[k]? = some o := by
   have := congrArg (·[0]?) hd
   simpa using this
  have hd' : ops.toList.drop (k + 1) = os ++ tl := by
   have := congrArg (List.drop 1) hd
   rw [List.drop_drop] at this
   simpa [Nat.add_comm] using this
  rw [e1]
  refine evStep_ok ho hsl h fun e' σ' hK => evOps_pre hsl os tl (k + 1) e' σ' _ hd' hK fun e2 σ2 h2 => ?_
  have := hr e2 σ2 h2
  rwa [List.length_cons, show k + (os.length + 1) = k + 1 + os.length by omega] at this

theorem wps_buildRow {P : Program} {c : Cx} {e : Env} {σ : List SObj} {Q : Exit → Env → List SObj → Prop} {id : Nat} {ops : Array Oper} (hd : dstOK c.nt ops = true) (n : Nat) {t T t1 t2 : TypeId} {len sz d d2 : Nat} {parts : Array (Nat × Operand)} {p1 p2 : String} {a1 a2 : Array Edge} {ti eti : TI}
  (hops : ops.toList = ops.toList.take n ++ [{ dst := some d, op := .buildSlice t len parts, type := t1, pos := p1, after := a1, guard := none }, { dst := some d2, op := .assign (.tmp d), type := t2, pos := p2, after := a2, guard := none }]) (hn : (ops.toList.take n).length = n)
  (ht : tiOf P t = some ti) (hk : ti.kind = .slice T) (het : tiOf P T = some eti) (hsz : eti.size = sz)
  (h : evOps P (slotOf ops) (ops.toList.take n) e (σ ++ [.unborn]) (σ.length + 1) fun e' σ' => ∃ ob rd els q wr, evBuildSlice P t len (parts.toList.map fun p => (p.1, opnd e' p.2)) = .ok ob rd (.u (.fz els q)) wr ∧ ob ∧ σ'[σ.length]? = some .unborn ∧ Q .normal ((d2, .h σ.length) :: (d, .h σ.length) :: e') (σ'.set σ.length (.row T sz els))) :
  WPS P c (.region id ops false) e σ Q := by
 intro a w hst
 refine wp_region ?_
 have hsl := dstOK_slot hd
 have hsize : ops.size = n + 2 := by
  have := congrArg List.length hops
  rw [List.length_append, hn] at this
  simpa using this
 have hdrop : ops.toList.drop n = [{ dst := some d, op := .buildSlice t len parts, type := t1, pos := p1, after := a1, guard := none }, { dst := some d2, op := .assign (.tmp d), type := t2, pos := p2, after := a2, guard := none }] := by
  conv => lhs; rw [hops]
  rw [List.drop_append_of_le_length (by omega), List.drop_eq_nil_of_le (by omega), List.nil_append]
 have h1 : ops[n]? = some { dst := some d, op := .buildSlice t len parts, type := t1, pos := p1, after := a1, guard := none } := by
  have := congrArg (·[0]?) hdrop
  simpa using this
 have h2 : ops[n + 1]? = some { dst := some d2, op := .assign (.tmp d), type := t2, pos := p2, after := a2, guard := none } := by
  have := congrArg (·[1]?) hdrop
  simpa using this
 have hrng : (List.range ops.size).drop n = [n, n + 1] := by
  rw [hsize, List.drop_eq_getElem_cons (by simp), List.drop_eq_getElem_cons (by simp), List.drop_eq_nil_of_le (by simp)]
  simp
 have key : OpsS P c ops ((List.range ops.size).drop 0) e (σ ++ [.unborn]) fun e' σ' => Q .normal e' σ' := by
  refine evOps_pre hsl (ops.toList.take n) _ 0 e (σ ++ [.unborn]) (σ.length + 1) (by rw [List.drop_zero]; exact hops) h fun e' σ' hK => ?_
  rw [hn, Nat.zero_add, hrng]
  obtain ⟨ob, rd, els, q, wr, k1, k2, k3, k4⟩ := hK
  intro a w Q' hst hfin
  refine Nm.wpOps_cons h1 ?_
  rw [if_pos (by simp [Region.wanted])]
  obtain ⟨β, Φ, ω, g1, g2, g3, g4, g5, g6⟩ := hst
  refine wp_of_opR (op_buildRow rfl ht hk het hsz k1 k2 (N := σ.length)) (fun t ht => hsl n t (by unfold slotOf; rw [h1]; exact ht)) g1 g2 g3 g4 g5 g6 (fun y => g5.opnd g6.gl y) ⟨k3, trivial⟩ fun a' w' hs => ?_
  exact evStep_ok (K := fun e2 σ2 => e2 = (d2, .h σ.length) :: (d, .h σ.length) :: e' ∧ σ2 = σ'.set σ.length (.row T sz els)) (N := 0) h2 hsl (by simp [evStep, callOf, evOp, rdOK, setAll, opnd, Env.put, Env.get]) (fun e2 σ2 ⟨p1, p2⟩ => by
   subst p1 p2
   intro a w Q' hst hfin
   exact hfin a w _ _ hst k4) a' w' Q' hs hfin
 rw [List.drop_zero] at key
 exact key a w _ (by simpa using hst.reserve 1) fun a w e' σ' hs hK => ⟨e', σ', hs, hK⟩

theorem chkI_all {ws : List Wt} : ∀ {f i : Nat}, chkI ws f i = 0 → ∀ j, i ≤ j → j < i + f → writeErr (wat ws j).1 (wat ws j).2.1 (wat ws j).2.2 = 0 ∧ (0 < j → Op.bytesLess (wat ws (j - 1)).1 (wat ws j).1 = true)
 | 0, i, _, j, h1, h2 => by omega
 | f + 1, i, h, j, h1, h2 => by
  rw [chkI] at h
  split at h
  ·rename_i h3
   rw [h] at h3; simp at h3
  ·rename_i h3
   split at h
   ·cases h
   ·rename_i h4
    by_cases hj : j = i
    ·subst hj
     refine ⟨by simpa using h3, fun h0 => ?_⟩
     cases hb : Op.bytesLess (wat ws (j - 1)).1 (wat ws j).1 with
     | true => rfl
     | false =>
      rw [hb] at h4
      simp at h4; omega
    ·exact chkI_all h j (by omega) (by omega)
theorem writeErr_ok {k v : List UInt8} {gn : Bool} (h : writeErr k v gn = 0) : WrOK (k, v, gn) := by
 unfold writeErr at h
 split at h
 ·cases h
 ·rename_i h1
  split at h
  ·cases h
  ·rename_i h2
   simp only [Bool.or_eq_true, beq_iff_eq, decide_eq_true_eq, not_or] at h1
   simp only [Bool.or_eq_true, Bool.and_eq_true, decide_eq_true_eq, not_or] at h2
   refine ⟨h1.1, by simp only; omega, by simp only; omega, fun hg => ?_⟩
   have := h2.2
   simp only at hg ⊢
   simpa [hg] using this
theorem chk_pos {ws : List Wt} (h : chk ws = 0) : 0 < ws.length := by
 unfold chk at h
 split at h
 ·cases h
 ·omega
theorem chk_all {ws : List Wt} (h : chk ws = 0) : ∀ j, j < ws.length → WrOK (wat ws j) ∧ (0 < j → Op.bytesLess (wat ws (j - 1)).1 (wat ws j).1 = true) := by
 unfold chk at h
 split at h
 ·cases h
 ·split at h
  ·cases h
  ·intro j hj
   have := chkI_all h j (Nat.zero_le _) (by omega)
   exact ⟨writeErr_ok this.1, this.2⟩
theorem wat_mem {ws : List Wt} {w : Wt} (h : w ∈ ws) : ∃ j, j < ws.length ∧ wat ws j = w := by
 obtain ⟨j, hj, rfl⟩ := List.getElem_of_mem h
 exact ⟨j, hj, by rw [wat, List.getD_eq_getElem?_getD, List.getElem?_eq_getElem hj]; rfl⟩
/-- what a commit puts into the tree -/
def comL (n : Nat) (ws : List Wt) : List Cel := titC n :: ws.map (verC n)
def vwL (W : PgM) (a : LogS) (q1 q2 : Option Nat) (synced : Nat) (g : Sec) (vl : Nat) : List SObj := vwm W (.fz (a.sg.map segrow) q1) (.fz (bs a.st) q2) a.last synced a.v g a.P vl
def vwN (W : PgM) (a : LogS) (synced : Nat) (g : Sec) (vl : Nat) : List SObj := [.cells [.p 1 0, .u (.i .u64 (vl : Int)), .u (.i .u64 0)], .cells [.p 2 0, .p 3 0, .p 12 0], .cells [.p 3 0], .cells [.p 8 0, .p 7 0, .u (.i .i64 0), .u (.i .i64 200), .u (.i .u64 0), .h 4, .h 5, .h 6], .map [], .map ((enc W).map sent), .map [], .cells [.p 8 0, .u (.i .i64 0), .u (.i .u64 0), .u (.i .i64 1)], .cells [.u (.i .i64 1000), .u (.i .i64 1000), .h 9, .h 10, .h 13], .map (a.v.map sent), .map (g.map sent), .dead, .cells [.p 8 0, .u (.i .i64 802), .u (.i .i64 8), .u (.i .i64 16), .u (.fz (a.sg.map segrow) none), .u (.fz (bs a.st) none), .u (.i .u64 (a.last : Int)), .u (.i .u64 (synced : Int))]] ++ [.row 116 1 (a.P.map prow)]

theorem wtake_succ {ws : List Wt} {k : Nat} (h : k < ws.length) : ws.take (k + 1) = ws.take k ++ [wat ws k] := by
 rw [gtake_succ (d := ([], [], false)) h]; rfl

theorem vcommit_ok (W W' : PgM) (m m' : Nat) (ws : List Wt) (q q1 q2 : Option Nat) (a b : LogS) (synced vl n : Nat) (g : Sec) (hck : chk ws = 0) (hn : n = vl + 1) (hvl : vl ≤ 1000000) (hC : Cnt W m) (hm : m ≤ 64) (hL : LApp (showS (comL n ws)) a b) (h : Puts W m (comL n ws) W' m')
  (hc2 : ∀ c ∈ comL n ws, c.1.length ≤ 240 ∧ c.1.length + c.2.length ≤ 480) : CallT Tryz.prog 13 [.p 0 0, .u (.i .u64 (n : Int)), .u (.fz (ws.map wrow) q)] (vwL W a q1 q2 synced g vl)
  fun r σ => r = .u (.i .i64 0) ∧ σ = vwN W' b synced g n := by
 have hlen := chk_len hck
 have hpos := chk_pos hck
 have hchk := check_ok 0 0 0 ws q
 rw [hck] at hchk
 have hto := told_ok n (by omega)
 have hap := apply_ok W W' m m' (comL n ws) none q1 q2 a b synced g hC hm (by simp [comL]; omega) hc2 hL h
 have hw1 : IntKind.u64.wrap ((vl : Int) + 1) = (n : Int) := by rw [wrapu64 (by omega) (by omega)]; omega
 have hbe : ((n : Int) == (n : Int)) = true := by simp
 have hd1 : decide ((9223372036854775807 : Int) < (n : Int)) = false := decide_eq_false (by omega)
 have hch0 : [chrow (titC n)] = [[.s (titC n).1, .s (titC n).2, .b false]] := rfl
 unfold bcells at hchk
 unfold vwL vwN
 unfold vwm
 unfold stoL stoN sto at hap
 refine cof 73 [.tmp 6] Tryz.func13 Tryz.ntmps13 fun c hnt hc0 => ?_
 replace hc0 : c.β0.length = 13 := hc0
 refine wps_seq fun K1 hK1 => rgn 0 ?_
 repeat refine ⟨sd, ?_⟩
 refine hK1 _ _ (sq fun _ k2 => bk fun _ k3 => sq fun _ k4 => rg 0 ?_)
 refine evx3 hw1 hbe hd1 ?_
 repeat refine ⟨sd, ?_⟩
 refine k4 (cd rfl (fun h1 => ?_) (fun h1 => ?_))
 ·exact absurd h1 (by simp)
 ·refine sq fun _ k5 => rgn 0 ?_
  repeat refine ⟨sd, ?_⟩
  refine callT_at [] [] hchk rfl rfl trivial mB mB rfl mR mR ?_
  refine evl ?_
  repeat refine ⟨sd, ?_⟩
  refine k5 (cd rfl (fun h2 => ?_) (fun h2 => ?_))
  ·exact absurd h2 (by simp)
  ·refine wps_skip (k3 (k2 (sq fun _ k6 => ?_)))
   refine wps_keep [0, 1, 2] mK ?_
   refine wps_buildRow (by rw [hnt]; rfl) 6 rfl rfl ty87 rfl ty85 rfl ?_
   simp only [List.take_succ_cons, List.take_zero]
   refine evl ?_
   repeat (refine And.intro ?_ ?_; · first | rfl | omega | assumption | (simp; done) | (simp; omega))
   refine callT_at [] [] hto rfl rfl trivial mB mB rfl mR mR ?_
   refine evl ?_
   refine ⟨_, _, _, _, _, rfl, trivial, ?_⟩
   refine k6 (sq fun _ k7 => sq fun _ k8 => rgn 0 ?_)
   repeat refine ⟨sd, ?_⟩
   refine k8 (bk fun _ k9 => ?_)
   refine wps_loop (fun m e σ => ∃ (k : Nat), m = ws.length - k ∧ k ≤ ws.length ∧ e = [(0, .p 0 0), (1, .u (.i .u64 (n : Int))), (7, .h 13), (36, .u (.fz (ws.map wrow) q)), (37, .u (.i .i64 (ws.length : Int))), (38, .u (.i .i64 (k : Int)))] ∧ σ = [.cells [.p 1 0, .u (.i .u64 (vl : Int)), .u (.i .u64 0)], .cells [.p 2 0, .p 3 0, .p 12 0], .cells [.p 3 0], .cells [.p 8 0, .p 7 0, .u (.i .i64 0), .u (.i .i64 200), .u (.i .u64 0), .h 4, .h 5, .h 6], .map [], .map ((enc W).map sent), .map [], .cells [.p 8 0, .u (.i .i64 0), .u (.i .u64 0), .u (.i .i64 1)], .cells [.u (.i .i64 1000), .u (.i .i64 1000), .h 9, .h 10, .h 11], .map (a.v.map sent), .map (g.map sent), .row 116 1 (a.P.map prow), .cells [.p 8 0, .u (.i .i64 802), .u (.i .i64 8), .u (.i .i64 16), .u (.fz (a.sg.map segrow) q1), .u (.fz (bs a.st) q2), .u (.i .u64 (a.last : Int)), .u (.i .u64 (synced : Int))], .row 85 3 ((titC n :: (ws.take k).map (verC n)).map chrow)])
    (e0 := [(0, .p 0 0), (1, .u (.i .u64 (n : Int))), (7, .h 13), (36, .u (.fz (ws.map wrow) q)), (37, .u (.i .i64 (ws.length : Int))), (38, .u (.i .i64 0))]) (σ0 := [.cells [.p 1 0, .u (.i .u64 (vl : Int)), .u (.i .u64 0)], .cells [.p 2 0, .p 3 0, .p 12 0], .cells [.p 3 0], .cells [.p 8 0, .p 7 0, .u (.i .i64 0), .u (.i .i64 200), .u (.i .u64 0), .h 4, .h 5, .h 6], .map [], .map ((enc W).map sent), .map [], .cells [.p 8 0, .u (.i .i64 0), .u (.i .u64 0), .u (.i .i64 1)], .cells [.u (.i .i64 1000), .u (.i .i64 1000), .h 9, .h 10, .h 11], .map (a.v.map sent), .map (g.map sent), .row 116 1 (a.P.map prow), .cells [.p 8 0, .u (.i .i64 802), .u (.i .i64 8), .u (.i .i64 16), .u (.fz (a.sg.map segrow) q1), .u (.fz (bs a.st) q2), .u (.i .u64 (a.last : Int)), .u (.i .u64 (synced : Int))], .row 85 3 [[.s (titC n).1, .s (titC n).2, .b false]]]) (entL hc0 [some 0, some 1, some 2, some 3, some 4, some 5, some 6, some 7, some 8, some 9, some 10, some 11, some 12, some 13] rfl rfl mB mB) ⟨0, rfl, Nat.zero_le _, rfl, rfl⟩ fun KL m e1 σ1 hI hKL => ?_
   obtain ⟨k, rfl, hkl, rfl, rfl⟩ := hI
   refine sq fun _ k10 => rgn 0 ?_
   repeat refine ⟨sd, ?_⟩
   refine k10 (sq fun _ k11 => cd rfl (fun h3 => ?_) (fun h3 => ?_))
   ·have hlt : k < ws.length := by simp at h3; omega
    have hel := wrow_at hlt
    have hwk := (chk_all hck k hlt).1
    have hvb := vbytes_ok (wat ws k).1 n hwk.k1 (by omega)
    have hvs := vshow_ok 0 (wat ws k) (by have := hwk.v1; omega)
    have hts := wtake_succ hlt
    have hw2 := wi1 k
    have hr1 := chrow_ok1 (titC n :: (ws.take k).map (verC n))
    have hr2 := chrow_ok2 (titC n :: (ws.take k).map (verC n))
    have hrl : ((titC n :: (ws.take k).map (verC n)).map chrow).length = k + 1 := by simp; omega
    refine wps_skip (k11 (sq fun _ k12 => bk fun _ k13 => sq fun _ k14 => rg 1 ?_))
    refine evx hel ?_
    repeat refine ⟨sd, ?_⟩
    refine k14 (dr 1 [0, 0, 2, 0, 14, 0, 32, 0, 128, 480, 1022, 2046, 4094, 8191, 16383] mixed ?_)
    refine evl ?_
    repeat refine ⟨sd, ?_⟩
    refine callE_at [] [] hvb rfl rfl trivial mB mB rfl mR mR ?_
    refine evl ?_
    repeat refine ⟨sd, ?_⟩
    refine callE_at [] [] hvs rfl rfl trivial mB mB rfl mR mR ?_
    refine evl ?_
    repeat refine ⟨sd, ?_⟩
    refine k13 (k12 ?_)
    refine wps_keep [0, 1, 7, 36, 37, 38] mK ?_
    refine rg 0 ?_
    refine evx hw2 ?_
    repeat refine ⟨sd, ?_⟩
    exact hKL _ _ (ws.length - (k + 1)) _ [.cells [.p 1 0, .u (.i .u64 (vl : Int)), .u (.i .u64 0)], .cells [.p 2 0, .p 3 0, .p 12 0], .cells [.p 3 0], .cells [.p 8 0, .p 7 0, .u (.i .i64 0), .u (.i .i64 200), .u (.i .u64 0), .h 4, .h 5, .h 6], .map [], .map ((enc W).map sent), .map [], .cells [.p 8 0, .u (.i .i64 0), .u (.i .u64 0), .u (.i .i64 1)], .cells [.u (.i .i64 1000), .u (.i .i64 1000), .h 9, .h 10, .h 11], .map (a.v.map sent), .map (g.map sent), .row 116 1 (a.P.map prow), .cells [.p 8 0, .u (.i .i64 802), .u (.i .i64 8), .u (.i .i64 16), .u (.fz (a.sg.map segrow) q1), .u (.fz (bs a.st) q2), .u (.i .u64 (a.last : Int)), .u (.i .u64 (synced : Int))], .row 85 3 ((titC n :: (ws.take (k + 1)).map (verC n)).map chrow)] (entL hc0 [some 0, some 1, some 2, some 3, some 4, some 5, some 6, some 7, some 8, some 9, some 10, some 11, some 12, some 15] rfl rfl mB (by rw [hts]; simp only [go_sem, reduceIte, Nat.reduceEqDiff, Nat.reduceAdd, Nat.reduceLT, List.map_append, List.map_cons, List.map_nil, chrow, verC, List.cons_append, List.nil_append])) ⟨k + 1, rfl, by omega, rfl, rfl⟩ (by omega)
   ·have hkl2 : k = ws.length := by simp at h3; omega
    subst hkl2
    rw [List.take_length, show chrow (titC n) :: (ws.map (verC n)).map chrow = (comL n ws).map chrow from rfl]
    refine wps_exit ?_
    simp only [reduceIte, Nat.reduceEqDiff]
    refine k9 (k7 (sq fun _ k15 => sq fun _ k16 => ?_))
    refine wps_ent (e' := [(0, .p 0 0), (1, .u (.i .u64 (n : Int))), (7, .u (.fz ((comL n ws).map chrow) none))]) (entF 13 rfl mB rfl) ?_
    refine rgn 0 ?_
    repeat refine ⟨sd, ?_⟩
    refine callT_atN [1, 2, 3, 4, 5, 6, 7, 8, 9, 10, 11, 12] [_, _, _, _, _, _, _, _, _, _, _, _] hap rfl rfl ⟨rfl, rfl, rfl, rfl, rfl, rfl, rfl, rfl, rfl, rfl, rfl, rfl, trivial⟩ mB mB rfl ?_
    refine fxl ?_
    refine evl ?_
    repeat refine ⟨sd, ?_⟩
    refine k16 (sq fun _ k17 => rgn 0 ?_)
    repeat refine ⟨sd, ?_⟩
    refine k17 (cd rfl (fun h4 => ?_) (fun h4 => ?_))
    ·exact absurd h4 (by simp)
    ·refine wps_skip (k15 (sq fun _ k18 => rgn 0 ?_))
     repeat refine ⟨sd, ?_⟩
     refine k18 (sq fun _ k19 => ?_)
     refine wps_keep [] mK ?_
     refine rgn 0 ?_
     repeat refine ⟨sd, ?_⟩
     refine k19 (wps_ret ?_)
     refine retL [some 0, some 1, some 2, some 3, some 4, some 5, some 6, some 7, some 8, some 9, some 10, some 11, some 12, some 14] rfl ⟨trivial, trivial⟩ rfl rfl ?_
     exact mU

/-- the cells of a view whose last timestamp is n -/
structure DbOK (l : List Cel) (n : Nat) : Prop where
 e : l = [] → n = 0
 t : l ≠ [] → keyAt [109] l = true ∧ (l.getD (lob [109] l) ([], [])).2 = (titC n).2
 c : ∀ c ∈ l, c = titC n ∨ ∃ t w, c = verC t w ∧ WrOK w ∧ 1 ≤ t ∧ t ≤ n
theorem lob_nil : ∀ l : List Cel, lob [] l = 0
 | [] => rfl
 | c :: l => by
  have : Op.bytesLess c.1 [] = false := by cases c.1 <;> rfl
  rw [lob, List.takeWhile_cons, this]; rfl
theorem takeL_all (to : List UInt8) : ∀ l acc : List Cel, takeL true to (-1) acc l = acc ++ l
 | [], acc => by simp [takeL]
 | c :: l, acc => by
  rw [takeL, if_neg (by simp [stopB]), takeL_all to l]; simp

theorem vopen_ok (W : PgM) (l : List Cel) (n : Nat) (L S : PV) (last synced : Nat) (v g : Sec) (P : List Pend) (hR : Reads W l) (hl : l.length ≤ 90000) (hD : DbOK l n) (hn : n ≤ 1000000) : CallT Tryz.prog 22 [.p 0 0] (sto W L S last synced v g P)
  fun r σ => r = .tup [.p 12 0, .u (.i .i64 0)] ∧ σ = sto W L S last synced v g P ++ [.cells [.p 0 0, .u (.i .u64 (n : Int)), .u (.i .u64 0)]] := by
 have hr := trange_ok W (v.map sent) (g.map sent) (P.map prow) l hR [] [] true (-1) hl
 rw [lob_nil, List.drop_zero, takeL_all, List.nil_append] at hr
 unfold sto
 unfold tre dskC at hr
 refine cof 99 [.tmp 2, .tmp 3] Tryz.func22 Tryz.ntmps22 fun c hnt hc0 => ?_
 replace hc0 : c.β0.length = 12 := hc0
 refine sq fun _ k1 => rgn 0 ?_
 repeat refine ⟨sd, ?_⟩
 refine k1 (sq fun _ k2 => rgn 1 ?_)
 repeat refine ⟨sd, ?_⟩
 refine k2 (sq fun _ k3 => rgn 0 ?_)
 repeat refine ⟨sd, ?_⟩
 refine callT_at [1, 2, 3, 4, 5, 6, 7, 8, 9, 10] [_, _, _, _, _, _, _, _, _, _] hr rfl rfl ⟨rfl, rfl, rfl, rfl, rfl, rfl, rfl, rfl, rfl, rfl, trivial⟩ mB mB rfl mR mR ?_
 refine evl ?_
 repeat refine ⟨sd, ?_⟩
 refine k3 (sq fun _ k4 => sq fun _ k5 => ?_)
 rcases List.eq_nil_or_concat l with hnil | hcc
 ·subst hnil
  have hn0 := hD.e rfl
  subst hn0
  refine rgn 0 ?_
  repeat refine ⟨sd, ?_⟩
  refine k5 (cd rfl (fun h1 => ?_) (fun h1 => ?_))
  ·refine sq fun _ k6 => ?_
   refine wps_keep [4] mK ?_
   refine rgn 0 ?_
   repeat refine ⟨sd, ?_⟩
   refine k6 (wps_ret ?_)
   refine retL [some 0, some 1, some 2, some 3, some 4, some 5, some 6, some 7, some 8, some 9, some 10, some 11, some 12] mA mO rfl rfl ?_
   simp only [go_sem, and_true, true_and, implies_true, reduceIte, Nat.reduceEqDiff, Nat.reduceAdd, Nat.reduceLT, List.cons_append, List.nil_append, nl0]
  ·exact absurd h1 (by simp)
 ·have hne : l ≠ [] := by
   rintro rfl
   obtain ⟨a, b, h⟩ := hcc
   simp at h
  have hpos : 0 < l.length := List.length_pos_iff.2 hne
  have hl0 : ((l.length : Int) == 0) = false := beq_eq_false_iff_ne.2 (by omega)
  obtain ⟨hk1, hk2⟩ := hD.t hne
  obtain ⟨way, s, ps, w1, w2, w3, w4, w5, w6⟩ := hR [109]
  have hget := tget_ok W (v.map sent) (g.map sent) (P.map prow) way s [109] (titC n).2 w1 w2 w3 (w6 hk1).1 ((w6 hk1).2.trans hk2)
  have h10 := vput_10 n (by omega)
  have h11 := vput_10 0 (by omega)
  have hrd := read_ok (vput n ++ vput 0) none (by simp; omega)
  have hnu1 := rnum_ok n (vput 0) (by omega) (by omega)
  have hnu2 := rnum_ok 0 [] (by omega) (by simp)
  have hen := rend_ok
  rw [List.append_nil] at hnu2
  unfold tre dskC titC at hget
  simp only [rdC, nl0] at hrd hnu1 hnu2 hen hget
  have hd0 : decide ((n : Int) < 0) = false := decide_eq_false (by omega)
  refine rg 0 ?_
  refine evx hl0 ?_
  repeat refine ⟨sd, ?_⟩
  refine k5 (cd rfl (fun h1 => ?_) (fun h1 => ?_))
  ·exact absurd h1 (by simp)
  ·refine wps_skip (k4 (sq fun _ k7 => ?_))
   refine wps_keep [0, 4, 5] mK ?_
   refine rgn 0 ?_
   repeat refine ⟨sd, ?_⟩
   refine callT_at [1, 2, 3, 4, 5, 6, 7, 8, 9, 10] [_, _, _, _, _, _, _, _, _, _] hget rfl rfl ⟨rfl, rfl, rfl, rfl, rfl, rfl, rfl, rfl, rfl, rfl, trivial⟩ mB mB rfl mR mR ?_
   refine evl ?_
   repeat refine ⟨sd, ?_⟩
   refine k7 (sq fun _ k8 => rgn 0 ?_)
   repeat refine ⟨sd, ?_⟩
   refine callT_new hrd mB ?_
   refine rtl ?_
   refine evl ?_
   repeat refine ⟨sd, ?_⟩
   refine k8 (sq fun _ k9 => ?_)
   refine wps_keep [4, 5, 7, 8] mK ?_
   refine rgn 0 ?_
   repeat refine ⟨sd, ?_⟩
   refine callT_at [13] [_] hnu1 rfl rfl ⟨rfl, trivial⟩ mB mB rfl mR mR ?_
   refine evl ?_
   repeat refine ⟨sd, ?_⟩
   refine callT_at [13] [_] hnu2 rfl rfl ⟨rfl, trivial⟩ mB mB rfl mR mR ?_
   refine evl ?_
   repeat refine ⟨sd, ?_⟩
   refine k9 (sq fun _ k10 => sq fun _ k11 => dr 0 [0, 1, 3, 7, 15, 31, 63, 127, 255, 511, 1023, 2047, 255, 4351, 12543, 28927, 65535, 131071] mixed ?_)
   refine evx hd0 ?_
   repeat refine ⟨sd, ?_⟩
   refine callG_at [13] [_] (fun _ => trivial) en55 hen rfl rfl ⟨rfl, trivial⟩ mB mB rfl mR mR ?_
   refine evx hd0 ?_
   repeat refine ⟨sd, ?_⟩
   refine k11 (cd rfl (fun h2 => ?_) (fun h2 => ?_))
   ·exact absurd h2 (by simp)
   ·refine wps_skip (k10 (sq fun _ k12 => sq fun _ k13 => ?_))
    refine wps_keep [4, 5] mK ?_
    refine rgn 0 ?_
    repeat refine ⟨sd, ?_⟩
    refine k13 (bk fun _ k14 => ?_)
    refine wps_loop (fun m e σ => ∃ (i : Nat), m = l.length - i ∧ i ≤ l.length ∧ e = [(4, .p 12 0), (66, .u (.fz (l.map crow) none)), (67, .u (.i .i64 (l.length : Int))), (68, .u (.i .i64 (i : Int)))] ∧ σ = [.cells [.p 1 0, .p 2 0, .p 11 0], .cells [.p 2 0], .cells [.p 7 0, .p 6 0, .u (.i .i64 0), .u (.i .i64 200), .u (.i .u64 0), .h 3, .h 4, .h 5], .map [], .map ((enc W).map sent), .map [], .cells [.p 7 0, .u (.i .i64 0), .u (.i .u64 0), .u (.i .i64 1)], .cells [.u (.i .i64 1000), .u (.i .i64 1000), .h 8, .h 9, .h 10], .map (v.map sent), .map (g.map sent), .row 116 1 (P.map prow), .cells [.p 7 0, .u (.i .i64 802), .u (.i .i64 8), .u (.i .i64 16), .u L, .u S, .u (.i .u64 (last : Int)), .u (.i .u64 (synced : Int))], .cells [.p 0 0, .u (.i .u64 (n : Int)), .u (.i .u64 0)]])
     (e0 := [(4, .p 12 0), (66, .u (.fz (l.map crow) none)), (67, .u (.i .i64 (l.length : Int))), (68, .u (.i .i64 0))]) (σ0 := [.cells [.p 1 0, .p 2 0, .p 11 0], .cells [.p 2 0], .cells [.p 7 0, .p 6 0, .u (.i .i64 0), .u (.i .i64 200), .u (.i .u64 0), .h 3, .h 4, .h 5], .map [], .map ((enc W).map sent), .map [], .cells [.p 7 0, .u (.i .i64 0), .u (.i .u64 0), .u (.i .i64 1)], .cells [.u (.i .i64 1000), .u (.i .i64 1000), .h 8, .h 9, .h 10], .map (v.map sent), .map (g.map sent), .row 116 1 (P.map prow), .cells [.p 7 0, .u (.i .i64 802), .u (.i .i64 8), .u (.i .i64 16), .u L, .u S, .u (.i .u64 (last : Int)), .u (.i .u64 (synced : Int))], .cells [.p 0 0, .u (.i .u64 (n : Int)), .u (.i .u64 0)]]) (entL hc0 [some 0, some 1, some 2, some 3, some 4, some 5, some 6, some 7, some 8, some 9, some 10, some 11, some 12] rfl rfl mB mB) ⟨0, rfl, Nat.zero_le _, rfl, rfl⟩ fun KL m e1 σ1 hI hKL => ?_
    obtain ⟨i, rfl, hi, rfl, rfl⟩ := hI
    refine sq fun _ k15 => rgn 0 ?_
    repeat refine ⟨sd, ?_⟩
    refine k15 (sq fun _ k16 => cd rfl (fun h3 => ?_) (fun h3 => ?_))
    ·have hlt : i < l.length := by simpa using h3
     have hel := crow_at hlt
     obtain ⟨c0, hc0'⟩ : ∃ c0, l.getD i ([], []) = c0 := ⟨_, rfl⟩
     have hmem : c0 ∈ l := by rw [← hc0']; exact getD_mem hlt
     rw [hc0'] at hel
     have hw1 := wi1 i
     refine wps_skip (k16 (sq fun _ k17 => bk fun _ k18 => sq fun _ k19 => ?_))
     rcases hD.c c0 hmem with rfl | ⟨t, w, rfl, hw, ht1, ht2⟩
     ·have hk : ((titC n).1 == [109]) = true := rfl
      refine rg 1 ?_
      refine evx hel ?_
      repeat refine ⟨sd, ?_⟩
      refine k19 (sq fun _ k20 => sq fun _ k21 => rg 0 ?_)
      refine evx hk ?_
      repeat refine ⟨sd, ?_⟩
      refine k21 (cd rfl (fun h4 => ?_) (fun h4 => ?_))
      ·refine wps_exit ?_
       simp only [reduceIte, Nat.reduceEqDiff]
       refine k18 (k17 (rg 0 ?_))
       refine evx hw1 ?_
       repeat refine ⟨sd, ?_⟩
       exact hKL _ _ (l.length - (i + 1)) _ _ (entL hc0 [some 0, some 1, some 2, some 3, some 4, some 5, some 6, some 7, some 8, some 9, some 10, some 11, some 12] rfl rfl mB mB) ⟨i + 1, rfl, by omega, rfl, rfl⟩ (by omega)
      ·exact absurd h4 (by simp)
     ·have hk : ((verC t w).1 == [109]) = false := rfl
      have hp := vparse_ok t w hw (by omega)
      have ht0 : ((t : Int) == 0) = false := beq_eq_false_iff_ne.2 (by omega)
      have htn : decide ((n : Int) < (t : Int)) = false := decide_eq_false (by omega)
      refine rg 1 ?_
      refine evx hel ?_
      repeat refine ⟨sd, ?_⟩
      refine k19 (sq fun _ k22 => sq fun _ k23 => rg 0 ?_)
      refine evx hk ?_
      repeat refine ⟨sd, ?_⟩
      refine k23 (cd rfl (fun h4 => ?_) (fun h4 => ?_))
      ·exact absurd h4 (by simp)
      ·refine wps_skip (k22 (sq fun _ k24 => rgn 1 ?_))
       repeat refine ⟨sd, ?_⟩
       refine callT_at [] [] hp rfl rfl trivial mB mB rfl mR mR ?_
       refine evl ?_
       repeat refine ⟨sd, ?_⟩
       refine k24 (sq fun _ k25 => ?_)
       refine wps_keep [4, 12, 13, 66, 67, 68] mK ?_
       refine dr 0 [0, 1, 3, 7, 15, 31, 63, 127, 255, 511, 255, 1279, 3327, 7423, 16383, 32767] mixed ?_
       refine evx2 ht0 htn ?_
       repeat refine ⟨sd, ?_⟩
       refine k25 (cd rfl (fun h5 => ?_) (fun h5 => ?_))
       ·exact absurd h5 (by simp)
       ·refine wps_skip (k18 (k17 ?_))
        refine wps_keep [4, 66, 67, 68] mK ?_
        refine rg 0 ?_
        refine evx hw1 ?_
        repeat refine ⟨sd, ?_⟩
        exact hKL _ _ (l.length - (i + 1)) _ _ (entL hc0 [some 0, some 1, some 2, some 3, some 4, some 5, some 6, some 7, some 8, some 9, some 10, some 11, some 12] rfl rfl mB mB) ⟨i + 1, rfl, by omega, rfl, rfl⟩ (by omega)
    ·refine wps_exit ?_
     simp only [reduceIte, Nat.reduceEqDiff]
     refine k14 (k12 (sq fun _ k26 => rgn 0 ?_))
     repeat refine ⟨sd, ?_⟩
     refine k26 (wps_ret ?_)
     refine retL [some 0, some 1, some 2, some 3, some 4, some 5, some 6, some 7, some 8, some 9, some 10, some 11, some 12] mA mO rfl rfl ?_
     simp only [go_sem, and_true, true_and, implies_true, reduceIte, Nat.reduceEqDiff, Nat.reduceAdd, Nat.reduceLT, List.cons_append, List.nil_append, nl0]

/-! ### the document's answer: a key's value behind the first batches -/
abbrev Bt := Int × Int × Int × List Wt
def brow (b : Bt) : List PV := [.i .u64 b.1, .i .u64 b.2.1, .i .u64 b.2.2.1, .fz (b.2.2.2.map wrow) none]
theorem brow_at {l : List Bt} {i : Nat} (h : i < l.length) : (l.map brow).getD i [] = [.i .u64 (l.getD i (0, 0, 0, [])).1, .i .u64 (l.getD i (0, 0, 0, [])).2.1, .i .u64 (l.getD i (0, 0, 0, [])).2.2.1, .fz ((l.getD i (0, 0, 0, [])).2.2.2.map wrow) none] := by
 rw [List.getD_eq_getElem?_getD, List.getElem?_map, List.getElem?_eq_getElem h, List.getD_eq_getElem?_getD, List.getElem?_eq_getElem h]; rfl
abbrev Ver := Nat × Wt
def verrow (x : Ver) : List PV := [.i .u64 (x.1 : Int), .s x.2.2.1, .b x.2.2.2]
theorem verrow_at {l : List Ver} {i : Nat} (h : i < l.length) : (l.map verrow).getD i [] = [.i .u64 ((l.getD i (0, [], [], false)).1 : Int), .s (l.getD i (0, [], [], false)).2.2.1, .b (l.getD i (0, [], [], false)).2.2.2] := by
 rw [List.getD_eq_getElem?_getD, List.getElem?_map, List.getElem?_eq_getElem h, List.getD_eq_getElem?_getD, List.getElem?_eq_getElem h]; rfl
theorem verrow_ok1 (l : List Ver) : ∀ y ∈ l.map verrow, y.length = 3 := by
 intro y hy
 obtain ⟨x, _, rfl⟩ := List.mem_map.1 hy
 rfl
theorem verrow_ok2 (l : List Ver) : ∀ y ∈ l.map verrow, ∀ p ∈ y, PV.one p = true := by
 intro y hy p hp
 obtain ⟨x, _, rfl⟩ := List.mem_map.1 hy
 simp only [verrow, List.mem_cons, List.not_mem_nil, or_false] at hp
 rcases hp with rfl | rfl | rfl <;> rfl
/-- the versions of a key -/
def verW (key : List UInt8) (t : Nat) : List Wt → List Ver
 | [] => []
 | w :: r => (if w.1 = key then [(t, w)] else []) ++ verW key t r
def verL (key : List UInt8) : Nat → List Bt → List Ver
 | _, [] => []
 | t, b :: r => verW key t b.2.2.2 ++ verL key (t + 1) r
theorem verW_app (key : List UInt8) (t : Nat) : ∀ a b : List Wt, verW key t (a ++ b) = verW key t a ++ verW key t b
 | [], b => rfl
 | w :: a, b => by rw [List.cons_append, verW, verW, verW_app key t a b, List.append_assoc]
theorem verL_app (key : List UInt8) : ∀ (a b : List Bt) (t : Nat), verL key t (a ++ b) = verL key t a ++ verL key (t + a.length) b
 | [], b, t => by simp [verL]
 | x :: a, b, t => by
  rw [List.cons_append, verL, verL, verL_app key a b (t + 1), List.append_assoc, List.length_cons, show t + 1 + a.length = t + (a.length + 1) by omega]
theorem verW_le {key : List UInt8} {t : Nat} : ∀ {ws : List Wt}, ∀ x ∈ verW key t ws, x.1 = t
 | [], x, h => by simp [verW] at h
 | w :: r, x, h => by
  rw [verW] at h
  rcases List.mem_append.1 h with h | h
  ·split at h
   ·simp at h; rw [h]
   ·simp at h
  ·exact verW_le x h
theorem verL_le {key : List UInt8} : ∀ {bts : List Bt} {t : Nat}, ∀ x ∈ verL key t bts, x.1 < t + bts.length
 | [], t, x, h => by simp [verL] at h
 | b :: r, t, x, h => by
  rw [verL] at h
  rcases List.mem_append.1 h with h | h
  ·have := verW_le x h
   rw [List.length_cons]; omega
  ·have := verL_le x h
   rw [List.length_cons]; omega
theorem verW_len (key : List UInt8) (t : Nat) : ∀ ws : List Wt, (verW key t ws).length ≤ ws.length
 | [] => Nat.le_refl _
 | w :: r => by
  have := verW_len key t r
  rw [verW, List.length_append, List.length_cons]
  split <;> simp <;> omega
theorem verL_len (key : List UInt8) {B : Nat} : ∀ (bts : List Bt) (t : Nat), (∀ b ∈ bts, b.2.2.2.length ≤ B) → (verL key t bts).length ≤ B * bts.length
 | [], t, _ => by simp [verL]
 | b :: r, t, h => by
  have h1 := verL_len key r (t + 1) fun x hx => h x (by simp [hx])
  have h2 := verW_len key t b.2.2.2
  have h3 := h b (by simp)
  rw [verL, List.length_append, List.length_cons, Nat.mul_add, Nat.mul_one]; omega
def atR (vs : List Ver) : List UInt8 × Int := match vs.getLast? with
 | none => ([], 161)
 | some x => if x.2.2.2 then ([], 161) else (x.2.2.1, 0)
/-- a key's value behind some batches -/
def valR (bts : List Bt) (key : List UInt8) : List UInt8 × Bool := ((atR (verL key 1 bts)).1, (atR (verL key 1 bts)).2 == 0)

theorem refat_ok (vs : List Ver) (at_ : Nat) (q : Option Nat) (hle : ∀ x ∈ vs, x.1 ≤ at_) (hl : vs.length ≤ 100000) : CallT Tryz.prog 37 [.u (.fz (vs.map verrow) q), .u (.i .u64 (at_ : Int))] []
  fun r σ => r = .tup [.u (.s (atR vs).1), .u (.i .i64 (atR vs).2)] ∧ σ = [] := by
 refine cof 36 [.tmp 4, .tmp 5] Tryz.func37 Tryz.ntmps37 fun c hnt hc0 => ?_
 refine sq fun _ k1 => rgn 0 ?_
 repeat refine ⟨sd, ?_⟩
 refine k1 (sq fun _ k2 => rgn 0 ?_)
 repeat refine ⟨sd, ?_⟩
 refine k2 (sq fun _ k3 => sq fun _ k4 => rgn 0 ?_)
 repeat refine ⟨sd, ?_⟩
 refine k4 (bk fun _ k5 => ?_)
 refine wps_loop (fun m e σ => ∃ (i : Nat), m = vs.length - i ∧ i ≤ vs.length ∧ e = [(0, .u (.fz (vs.map verrow) q)), (1, .u (.i .u64 (at_ : Int))), (6, .u (.i .i64 ((i : Int) - 1))), (7, .u (.i .i64 (i : Int)))] ∧ σ = [])
  (e0 := [(0, .u (.fz (vs.map verrow) q)), (1, .u (.i .u64 (at_ : Int))), (6, .u (.i .i64 (-1))), (7, .u (.i .i64 0))]) (σ0 := []) (entL hc0 [] rfl rfl mB mB) ⟨0, rfl, Nat.zero_le _, rfl, rfl⟩ fun KL m e1 σ1 hI hKL => ?_
 obtain ⟨i, rfl, hi, rfl, rfl⟩ := hI
 refine sq fun _ k6 => sq fun _ k7 => rgn 0 ?_
 repeat refine ⟨sd, ?_⟩
 refine k7 (cd rfl (fun h1 => ?_) (fun h1 => ?_))
 ·have hlt : i < vs.length := by simpa using h1
  have hel := verrow_at hlt
  have hxi := hle _ (getD_mem (d := ((0, [], [], false) : Ver)) hlt)
  have hd : decide (((vs.getD i (0, [], [], false)).1 : Int) ≤ (at_ : Int)) = true := decide_eq_true (by omega)
  have hw1 := wi1 i
  have hi1 : ((i + 1 : Nat) : Int) - 1 = (i : Int) := by omega
  refine wps_skip (k6 (sq fun _ k8 => bk fun _ k9 => sq fun _ k10 => rg 0 ?_))
  refine evx2 hel hd ?_
  repeat refine ⟨sd, ?_⟩
  refine k10 (cd rfl (fun h2 => ?_) (fun h2 => ?_))
  ·refine rgn 0 ?_
   repeat refine ⟨sd, ?_⟩
   refine k9 (k8 ?_)
   refine wps_keep [0, 1, 6, 7] mK ?_
   refine rg 0 ?_
   refine evx hw1 ?_
   repeat refine ⟨sd, ?_⟩
   exact hKL _ _ (vs.length - (i + 1)) _ _ (entL hc0 [] rfl rfl (by rw [hi1]; simp only [go_sem, reduceIte, Nat.reduceEqDiff, Nat.reduceAdd, Nat.reduceLT]) mB) ⟨i + 1, rfl, by omega, rfl, rfl⟩ (by omega)
  ·exact absurd h2 (by simp)
 ·have hil : i = vs.length := by simp at h1; omega
  subst hil
  refine wps_exit ?_
  simp only [reduceIte, Nat.reduceEqDiff]
  refine k5 (k3 (sq fun _ k11 => sq fun _ k12 => ?_))
  rcases List.eq_nil_or_concat vs with hnil | ⟨vi, x, hcc⟩
  ·subst hnil
   have hel : (([] : List Ver).map verrow).getD 0 [] = [] := rfl
   have hw1 : IntKind.i64.wrap (0 - 1) = -1 := by decide
   refine rg 0 ?_
   simp only [↓kOps_app, ↓evOps_nil, ↓evOps_cons, go_sem, Int.reduceAdd, Int.reduceBEq, Int.reduceEq, Int.reduceLE, Int.reduceLT, Int.reduceNe, Int.reduceSub, Int.reduceToNat, Nat.reduceAdd, Nat.reduceBEq, Nat.reduceEqDiff, Nat.reduceLT, Nat.reduceLeDiff, Nat.reduceMul, Nat.reduceSub, reduceCtorEq, reduceIte, List.map_nil, List.length_nil, List.getD_nil, List.drop_nil]
   repeat refine ⟨sd, ?_⟩
   refine k12 (cd rfl (fun h3 => ?_) (fun h3 => ?_))
   ·refine sq fun _ k13 => ?_
    refine wps_keep [] mK ?_
    refine rgn 0 ?_
    repeat refine ⟨sd, ?_⟩
    refine k13 (wps_ret ?_)
    refine retL [] mA mO rfl rfl ?_
    refine rtl ?_
    rfl
   ·exact absurd h3 (by simp)
  ·have hcc2 : vs = vi ++ [x] := by rw [hcc, List.concat_eq_append]
   have hvl : vs.length = vi.length + 1 := by rw [hcc2]; simp
   have hlt : vi.length < vs.length := by omega
   have hel := verrow_at hlt
   have hgx : vs.getD vi.length (0, [], [], false) = x := by rw [hcc2, List.getD_eq_getElem?_getD, List.getElem?_append_right (Nat.le_refl _)]; simp
   rw [hgx] at hel
   have hi1 : (vs.length : Int) - 1 = (vi.length : Int) := by omega
   have hd0 : decide ((vi.length : Int) < 0) = false := decide_eq_false (by omega)
   have hga : atR vs = if x.2.2.2 then ([], 161) else (x.2.2.1, 0) := by rw [hcc2, atR, List.getLast?_concat]
   refine rg 0 ?_
   refine evx3 hi1 hd0 hel ?_
   repeat refine ⟨sd, ?_⟩
   refine k12 (cd rfl (fun h3 => ?_) (fun h3 => ?_))
   ·refine sq fun _ k14 => ?_
    refine wps_keep [] mK ?_
    refine rgn 0 ?_
    repeat refine ⟨sd, ?_⟩
    refine k14 (wps_ret ?_)
    refine retL [] mA mO rfl rfl ?_
    simp only [go_sem, and_true, true_and, implies_true, reduceIte, Nat.reduceEqDiff, Nat.reduceAdd, Nat.reduceLT, hga, h3, reduceIte]
   ·refine wps_skip (k11 (sq fun _ k15 => ?_))
    refine wps_keep [0, 6] mK ?_
    refine rg 0 ?_
    refine evx2 hi1 hel ?_
    repeat refine ⟨sd, ?_⟩
    refine k15 (wps_ret ?_)
    refine retL [] mA mO rfl rfl ?_
    simp only [go_sem, and_true, true_and, implies_true, reduceIte, Nat.reduceEqDiff, Nat.reduceAdd, Nat.reduceLT, hga, h3, Bool.false_eq_true, reduceIte]

theorem same_ok (l : List Cel) (q1 q2 : Option Nat) (hl : l.length ≤ 100000) : CallT Tryz.prog 17 [.u (.fz (l.map crow) q1), .u (.fz (l.map crow) q2)] []
  fun r σ => r = .u (.b true) ∧ σ = [] := by
 refine cof 26 [.tmp 4] Tryz.func17 Tryz.ntmps17 fun c hnt hc0 => ?_
 refine sq fun _ k1 => rgn 0 ?_
 repeat refine ⟨sd, ?_⟩
 refine k1 (sq fun _ k2 => sq fun _ k3 => rgn 0 ?_)
 repeat refine ⟨sd, ?_⟩
 refine k3 (cd rfl (fun h1 => ?_) (fun h1 => ?_))
 ·exact absurd h1 (by simp)
 ·refine wps_skip (k2 (sq fun _ k4 => sq fun _ k5 => rgn 0 ?_))
  repeat refine ⟨sd, ?_⟩
  refine k5 (bk fun _ k6 => ?_)
  refine wps_loop (fun m e σ => ∃ (i : Nat), m = l.length - i ∧ i ≤ l.length ∧ e = [(0, .u (.fz (l.map crow) q1)), (1, .u (.fz (l.map crow) q2)), (5, .u (.i .i64 (i : Int)))] ∧ σ = [])
   (e0 := [(0, .u (.fz (l.map crow) q1)), (1, .u (.fz (l.map crow) q2)), (5, .u (.i .i64 0))]) (σ0 := []) (entL hc0 [] rfl rfl mB mB) ⟨0, rfl, Nat.zero_le _, rfl, rfl⟩ fun KL m e1 σ1 hI hKL => ?_
  obtain ⟨i, rfl, hi, rfl, rfl⟩ := hI
  refine sq fun _ k7 => sq fun _ k8 => rgn 0 ?_
  repeat refine ⟨sd, ?_⟩
  refine k8 (cd rfl (fun h2 => ?_) (fun h2 => ?_))
  ·have hlt : i < l.length := by simpa using h2
   have hel := crow_at hlt
   have hw1 := wi1 i
   refine wps_skip (k7 (sq fun _ k9 => bk fun _ k10 => sq fun _ k11 => dr 0 [0, 0, 3, 7, 0, 0, 48, 112, 255] mixed ?_))
   refine evx hel ?_
   repeat refine ⟨sd, ?_⟩
   refine k11 (cd rfl (fun h3 => ?_) (fun h3 => ?_))
   ·exact absurd h3 (by simp)
   ·refine wps_skip (k10 (k9 (rg 0 ?_)))
    refine evx hw1 ?_
    repeat refine ⟨sd, ?_⟩
    exact hKL _ _ (l.length - (i + 1)) _ _ (entL hc0 [] rfl rfl mB mB) ⟨i + 1, rfl, by omega, rfl, rfl⟩ (by omega)
  ·refine wps_exit ?_
   simp only [reduceIte, Nat.reduceEqDiff]
   refine k6 (k4 (sq fun _ k12 => rgn 0 ?_))
   repeat refine ⟨sd, ?_⟩
   refine k12 (wps_ret ?_)
   refine retL [] rfl ⟨trivial, trivial⟩ rfl rfl ?_
   exact mT
end Go.Proofs.YtefipnajpabfgaaGreatDoor
