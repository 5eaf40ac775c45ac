/- Part 7 of the proof: what functions of the program do, and plain facts on what they compute. -/
import Derived.Test.YtefipnajpabfgaaGreatDoorL6
import Derived.Maps.RangeRun
import Derived.KernelRfl
set_option linter.all false
set_option maxRecDepth 40000
set_option maxHeartbeats 16000000
set_option linter.unusedSimpArgs false
set_option linter.unusedVariables false
/- A round of an iteration over a map: any entry that is left; and the iteration's end. -/
namespace Go.Nm

theorem filter_erase {α : Type} (f : α → Nat) : ∀ (l : List α) (j : Nat) (e : α), (l.map f).Nodup → l[j]? = some e → l.filter (fun x => f x != f e) = l.eraseIdx j
  | [], j, e, _, h => by simp at h
  | x :: l, 0, e, hn, h => by
    simp at h; subst h
    simp only [List.map_cons, List.nodup_cons] at hn
    have : l.filter (fun y => f y != f x) = l := by
      rw [List.filter_eq_self]
      intro a ha
      have : f a ≠ f x := fun h => hn.1 (h ▸ List.mem_map_of_mem ha)
      simpa using this
    simp [this]
  | x :: l, j + 1, e, hn, h => by
    simp only [List.map_cons, List.nodup_cons] at hn
    have h' : l[j]? = some e := by simpa using h
    have hx : f x ≠ f e := fun h => hn.1 (h ▸ List.mem_map_of_mem (List.mem_of_getElem? h'))
    have := filter_erase f l j e hn.2 h'
    simp [hx, this]

theorem EntsR.erase {Φ : Fz} {l : List (PV × PV)} {l' : List MapEntry} (h : EntsR Φ l l') (j : Nat) : EntsR Φ (l.eraseIdx j) (l'.eraseIdx j) := by
  refine ⟨by simp [List.length_eraseIdx, h.1], fun i k x e h1 h2 => ?_⟩
  rw [List.getElem?_eraseIdx] at h1 h2
  split at h1
  · rw [if_pos (by assumption)] at h2; exact h.2 _ k x e h1 h2
  · rw [if_neg (by assumption)] at h2; exact h.2 _ k x e h1 h2

theorem notSeen_push (seen : Array Nat) (l : List MapEntry) (hn : (l.map MapEntry.born).Nodup) (j : Nat) (e : MapEntry) (h : (notSeen seen l)[j]? = some e) : notSeen (seen.push e.born) l = (notSeen seen l).eraseIdx j := by
  have h1 : ((notSeen seen l).map MapEntry.born).Nodup := by
    unfold notSeen
    exact List.Nodup.sublist (List.Sublist.map _ List.filter_sublist) hn
  rw [← filter_erase MapEntry.born _ j e h1 h]
  unfold notSeen
  rw [List.filter_filter]
  congr 1
  funext x
  rw [Array.contains_push]
  cases hx : (x.born == e.born) <;> simp [bne, hx]

/-- the iteration's step -/
theorem wps_next {P : Program} {c : Cx} {e : Env} {σ : List SObj} {Q : Exit → Env → List SObj → Prop} {id : Nat} {a d1 d2 n m : Nat} {t1 t2 : TypeId} {p1 p2 : String} {a1 a2 : Array Edge} {es left : List (PV × PV)} {cur : Option (PV × PV)}
    (hl1 : d1 < c.nt) (hl2 : d2 < c.nt) (hx : e.get a = .h n) (hσ : σ[n]? = some (.iter m es left cur))
    (h0 : left = [] → Q .normal ((e.put (some d1) (.tup [.u (.b false)])).put (some d2) (.u (.b false))) σ)
    (h1 : ∀ (j : Nat) k x, left[j]? = some (k, x) → Q .normal ((e.put (some d1) (.tup [.u (.b true), .u k, .u x])).put (some d2) (.u (.b true))) (σ.set n (.iter m es (left.eraseIdx j) (some (k, x))))) :
    WPS P c (.region id #[{ dst := some d1, op := .next (.tmp a) false, type := t1, pos := p1, after := a1, guard := none }, { dst := some d2, op := .extract (.tmp d1) 0, type := t2, pos := p2, after := a2, guard := none }] false) e σ Q := by
  intro A w hst
  refine wp_region ?_
  obtain ⟨β, Φ, ω, k1, k2, k3, k4, k5, k6⟩ := hst
  have hr : List.range (#[{ dst := some d1, op := .next (.tmp a) false, type := t1, pos := p1, after := a1, guard := none }, { dst := some d2, op := .extract (.tmp d1) 0, type := t2, pos := p2, after := a2, guard := none }] : Array Oper).size = [0, 1] := rfl
  rw [hr]
  refine wpOps_cons (o := { dst := some d1, op := .next (.tmp a) false, type := t1, pos := p1, after := a1, guard := none }) rfl ?_
  rw [if_pos (by simp [Region.wanted])]
  have hv := k5.opnd k6.gl (.tmp a)
  have he1 : opnd e (.tmp a) = .h n := hx
  rw [he1] at hv
  obtain ⟨u, hβ, r, bm, es', ck, seen, rfl, hw, hc, hm, hwm, hcm, hst, g1, g2, g3⟩ := k6.at_ hσ
  have hval := hv.inv_h.1
  rw [hβ] at hval
  have hval := (Option.some.inj hval).symm
  have hrlt : r < w.heap.size := k6.lt r (by omega)
  have hrb : r ≠ bm := by intro h; subst h; rw [hc] at hcm; cases hcm
  have hlist : (leftOf es' seen).toList = notSeen seen es'.toList := by simp [leftOf, notSeen]
  -- the second operation, whatever the first one gave
  have second : ∀ (A' : Act) (w' : World) (β' : List Value) (Φ' : Fz) (ω' : Nat → Nat) (σ' : List SObj) (vs : List SV) (b : Bool), vs[0]? = some (.u (.b b)) → BExt c.β0 β' → c.Φ0.le Φ' → A'.defers = [] → A'.tmps.size = c.nt →
      EnvOK β' Φ' (e.put (some d1) (.tup vs)) A'.tmps → Rep c.w0 c.ω0 β' σ' Φ' ω' w' → Q .normal ((e.put (some d1) (.tup vs)).put (some d2) (.u (.b b))) σ' →
      wpOps P #[{ dst := some d1, op := .next (.tmp a) false, type := t1, pos := p1, after := a1, guard := none }, { dst := some d2, op := .extract (.tmp d1) 0, type := t2, pos := p2, after := a2, guard := none }]
        (fun ex a w => ∃ e' σ', St c e' σ' a w ∧ Q ex e' σ') [1] A' w' := by
    intro A' w' β' Φ' ω' σ' vs b hvs q1 q2 q3 q4 q5 q6 hQ
    refine wpOps_cons (o := { dst := some d2, op := .extract (.tmp d1) 0, type := t2, pos := p2, after := a2, guard := none }) rfl ?_
    rw [if_pos (by simp [Region.wanted])]
    have hg1 : opnd (e.put (some d1) (.tup vs)) (.tmp d1) = .tup vs := by
      show (e.put (some d1) (.tup vs)).get d1 = _
      simp [Env.put, Env.get]
    have hO : OpR P { dst := some d2, op := .extract (.tmp d1) 0, type := t2, pos := p2, after := a2, guard := none } (opnd (e.put (some d1) (.tup vs))) [] (.u (.b b)) [] := op_extract rfl (by rw [hg1]; simp [SV.tupAt, hvs])
    refine wp_of_opR hO (fun t ht => by cases ht; exact hl2) q1 q2 q3 q4 q5 q6 (fun y => q5.opnd q6.gl y) trivial fun a2 w2 hs2 => ?_
    exact ⟨_, _, hs2, hQ⟩
  have hev : A.eval (.tmp a) = .pointer (some ⟨r, 0, none⟩) := hval
  rcases run_next_at (P := P) w t1 r bm ck ck seen es' ck hc hcm hst.1 (Nat.le_refl _) with ⟨hs, hrun⟩ | ⟨en, hen, w1, hw1, hrun⟩
  · have hl0 : left = [] := by
      have := g2.1
      rw [← hlist] at this
      refine List.eq_nil_of_length_eq_zero ?_
      rw [← this]; simpa using hs
    unfold Oper.wp
    have hx2 : (execOp A.eval { dst := some d1, op := .next (.tmp a) false, type := t1, pos := p1, after := a1, guard := none }).run P w = .ok (.value (.tuple #[.bool false])) w := by
      simp only [execOp, hev, Sem.run_bind, hrun, Result.andThen_ok, Sem.run_pure]
    rw [hx2]
    have hvt : V β Φ (.tup [.u (.b false)]) (.tuple #[.bool false]) := .tup _ [.bool false] rfl fun j y v hy hv => by
      match j with
      | 0 => simp at hy hv; subst hy hv; exact V.mk_b _
      | j + 1 => simp at hy
    obtain ⟨β2, Φ2, ω2, m1, m2, m3, m4, m5, m6⟩ := (St.put (d := some d1) (fun t ht => by cases ht; exact hl1) k1 k2 k3 k4 k5 k6 hvt : St c (e.put (some d1) (.tup [.u (.b false)])) σ (A.put (some d1) (.tuple #[.bool false])) w)
    exact second _ _ β2 Φ2 ω2 σ [.u (.b false)] false rfl m1 m2 m3 m4 m5 m6 (h0 hl0)
  · rw [hlist] at hen
    obtain ⟨j, hj⟩ := List.getElem?_of_mem hen
    have hjl : j < left.length := by rw [← g2.1]; exact (List.getElem?_eq_some_iff.1 hj).1
    obtain ⟨⟨k, x⟩, hkx⟩ : ∃ p, left[j] = p := ⟨_, rfl⟩
    have hlj : left[j]? = some (k, x) := by rw [List.getElem?_eq_getElem hjl, hkx]
    obtain ⟨hvk, hvx⟩ := g2.2 j k x en hlj hj
    have hR1 : Rep c.w0 c.ω0 β σ Φ ω w1 := by
      rcases hw1 with rfl | rfl
      · exact k6
      · exact k6.of_heap rfl rfl rfl rfl
    have hh1 : w1.heap = w.heap := by rcases hw1 with rfl | rfl <;> rfl
    have hnl : n < σ.length := (List.getElem?_eq_some_iff.1 hσ).1
    obtain ⟨s1, s2⟩ := heap_setObj (w := w1) (o := .mapIter (some bm) ck (seen.push en.born) ck) (b := r) (by rw [hh1]; exact hrlt)
    have hR2 : Rep c.w0 c.ω0 (β.set n (.pointer (some ⟨r, 0, none⟩))) (σ.set n (.iter m es (left.eraseIdx j) (some (k, x)))) Φ ω (ChangeMaps.setBlock w1 r (.mapIter (some bm) ck (seen.push en.born) ck)) := by
      refine hR1.upd hnl rfl rfl rfl (by simp [ChangeMaps.setBlock]) (fun v hv _ => by rw [hβ] at hv; exact Option.some.inj hv) (fun b hb hne => ⟨s2 b (fun h => hne (h ▸ hw)), rfl⟩) (fun b hb => by have := hR1.lt b hb; simpa [ChangeMaps.setBlock] using this) (Fz.le_refl _) (fun b o hb => ?_) ?_
      · obtain ⟨q1, q2⟩ := hR1.fz b o hb
        exact ⟨q1, (s2 b (fun h => by subst h; omega)).trans q2⟩
      · have hmn : m ≠ n := by intro h; subst h; rw [hβ] at hm; cases hm
        refine ⟨r, bm, es', ck, seen.push en.born, rfl, hw, s1, by rw [List.getElem?_set_ne (fun h => hmn h.symm)]; exact hm, hwm, (s2 bm (fun h => hrb h.symm)).trans (by rw [hh1]; exact hcm), hst, g1, ?_, fun k' x' hk' => ?_⟩
        · rw [notSeen_push seen es'.toList hst.2 j en hj]; exact g2.erase j
        · cases hk'
          exact ⟨seen, en, rfl, (List.mem_filter.1 hen).1, hvk, hvx⟩
    have hβs : β.set n (.pointer (some ⟨r, 0, none⟩)) = β := by
      have hlt := (List.getElem?_eq_some_iff.1 hβ).1
      have := (List.getElem?_eq_some_iff.1 hβ).2
      rw [← this]; exact List.set_getElem_self hlt
    rw [hβs] at hR2
    unfold Oper.wp
    have hx2 : (execOp A.eval { dst := some d1, op := .next (.tmp a) false, type := t1, pos := p1, after := a1, guard := none }).run P w = .ok (.value (.tuple #[.bool true, en.key, en.val])) (ChangeMaps.setBlock w1 r (.mapIter (some bm) ck (seen.push en.born) ck)) := by
      simp only [execOp, hev, Sem.run_bind, hrun, Result.andThen_ok, Sem.run_pure]
    rw [hx2]
    have hvt : V β Φ (.tup [.u (.b true), .u k, .u x]) (.tuple #[.bool true, en.key, en.val]) := .tup _ [.bool true, en.key, en.val] rfl fun j y v hy hv => by
      match j with
      | 0 => simp at hy hv; subst hy hv; exact V.mk_b _
      | 1 => simp at hy hv; subst hy hv; exact .u _ _ hvk
      | 2 => simp at hy hv; subst hy hv; exact .u _ _ hvx
      | j + 3 => simp at hy
    obtain ⟨β2, Φ2, ω2, m1, m2, m3, m4, m5, m6⟩ := (St.put (d := some d1) (fun t ht => by cases ht; exact hl1) k1 k2 k3 k4 k5 hR2 hvt : St c (e.put (some d1) (.tup [.u (.b true), .u k, .u x])) _ (A.put (some d1) (.tuple #[.bool true, en.key, en.val])) _)
    exact second _ _ β2 Φ2 ω2 _ [.u (.b true), .u k, .u x] true rfl m1 m2 m3 m4 m5 m6 (h1 j k x hlj)

theorem wps_nextB {P : Program} {c : Cx} {e : Env} {σ : List SObj} {Q : Exit → Env → List SObj → Prop} {id : Nat} {a d1 d2 n m : Nat} {t1 t2 : TypeId} {p1 p2 : String} {a1 a2 : Array Edge} {es left : List (PV × PV)} {cur : Option (PV × PV)}
    (hl1 : d1 < c.nt) (hl2 : d2 < c.nt) (hx : e.get a = .h n) (hσ : σ[n]? = some (.iter m es left cur))
    (h : ∀ (b : Bool) (tv : SV) (σ' : List SObj), ((b = false ∧ left = [] ∧ σ' = σ) ∨ (b = true ∧ ∃ (j : Nat) (k x : PV), left[j]? = some (k, x) ∧ σ' = σ.set n (.iter m es (left.eraseIdx j) (some (k, x))))) → Q .normal ((e.put (some d1) tv).put (some d2) (.u (.b b))) σ') :
    WPS P c (.region id #[{ dst := some d1, op := .next (.tmp a) false, type := t1, pos := p1, after := a1, guard := none }, { dst := some d2, op := .extract (.tmp d1) 0, type := t2, pos := p2, after := a2, guard := none }] false) e σ Q :=
  wps_next hl1 hl2 hx hσ (fun h0 => h _ _ _ (.inl ⟨rfl, h0, rfl⟩)) fun j k x hj => h _ _ _ (.inr ⟨rfl, j, k, x, hj, rfl⟩)

/-- the iteration's end: the map is its name's again -/
theorem ent_iter {c : Cx} {e : Env} {σ : List SObj} (n m : Nat) {es left : List (PV × PV)} {cur : Option (PV × PV)} (hσ : σ[n]? = some (.iter m es left cur)) (hm : σ[m]? = some .dead) : Ent c e σ e ((σ.set n .dead).set m (.map es)) := by
  rintro a w ⟨β, Φ, ω, h1, h2, h3, h4, h5, h6⟩
  obtain ⟨u, hβ, r, bm, es', ck, seen, rfl, hw, hc, hmβ, hwm, hcm, hst, g1, g2, g3⟩ := h6.at_ hσ
  have hmn : m ≠ n := by intro h; subst h; rw [hσ] at hm; cases hm
  let ω' : Nat → Nat := fun b => if b = bm then m + 2 else ω b
  have hkeep : ∀ b, b ≠ bm → ω' b = ω b := fun b hb => by simp only [ω', if_neg hb]
  refine ⟨β, Φ, ω', h1, h2, h3, h4, h5, h6.os, h6.tape, h6.output, h6.size, fun b hb h0 => ?_, fun b o hb => ?_, fun b hb => ?_, by simp [h6.len], fun k ob v hk hv => ?_, h6.gl⟩
  · obtain ⟨q1, q2⟩ := h6.frame b hb h0
    exact ⟨q1, (hkeep b (by intro h; subst h; omega)).trans q2⟩
  · obtain ⟨q1, q2⟩ := h6.fz b o hb
    exact ⟨(hkeep b (by intro h; subst h; omega)).trans q1, q2⟩
  · by_cases hbm : b = bm
    · subst hbm; exact h6.lt b (by omega)
    · rw [hkeep b hbm] at hb; exact h6.lt b hb
  · by_cases e1 : k = m
    · subst e1
      rw [List.getElem?_set_self (by simpa using (List.getElem?_eq_some_iff.1 hm).1)] at hk
      rw [hmβ] at hv
      cases hk; cases hv
      exact ⟨bm, es', ck, rfl, by simp [ω'], hcm, by simpa using g1.1, hst, fun i k x e a1 a2 => g1.2 i k x e a1 (by simpa using a2)⟩
    · rw [List.getElem?_set_ne (fun h => e1 h.symm)] at hk
      by_cases e2 : k = n
      · subst e2
        rw [List.getElem?_set_self (List.getElem?_eq_some_iff.1 hσ).1] at hk
        cases hk; trivial
      · rw [List.getElem?_set_ne (fun h => e2 h.symm)] at hk
        exact (h6.obj k ob v hk hv).mono (BExt.refl _) (Fz.le_refl _) fun b hb => ⟨(hkeep b (by intro h; subst h; omega)).trans hb, rfl⟩

/-- what is let go or frozen at a function's end -/
theorem wps_post {P : Program} {c : Cx} {e : Env} {σ : List SObj} {Q : Exit → Env → List SObj → Prop} {code : Code} (h : WPS P c code e σ fun ex e' σ' => ∃ e'' σ'', Ent c e' σ' e'' σ'' ∧ Q ex e'' σ'') : WPS P c code e σ Q := by
  intro a w hst
  refine wp_mono (h a w hst) fun ex a w ⟨e', σ', hs, e'', σ'', hE, hq⟩ => ⟨e'', σ'', hE a w hs, hq⟩

theorem sd {p : Prop} (h : p := by first | rfl | omega | assumption | exact bs_ok1 _ | exact bs_ok2 _ | (simp; done) | (simp; omega) | (intros; omega) | (intros; simp_all; done) | (intros; simp_all; omega) | (and_intros <;> first | rfl | omega | assumption | exact bs_ok1 _ | exact bs_ok2 _ | (simp; done) | (simp; omega))) : p := h
theorem evl {p q : Prop} (h : q) (e : p = q := by conv => lhs; simp only [↓kOps_app, ↓evOps_nil, ↓evOps_cons, go_sem, Int.reduceAdd, Int.reduceBEq, Int.reduceEq, Int.reduceLE, Int.reduceLT, Int.reduceNe, Int.reduceSub, Int.reduceToNat, Nat.reduceAdd, Nat.reduceBEq, Nat.reduceEqDiff, Nat.reduceLT, Nat.reduceLeDiff, Nat.reduceMul, Nat.reduceSub, reduceCtorEq, reduceIte]) : p := e.mpr h
theorem evx {p q a : Prop} (x : a) (h : q) (e : a → p = q := by intro hx; conv => lhs; simp only [↓kOps_app, ↓evOps_nil, ↓evOps_cons, go_sem, Int.reduceAdd, Int.reduceBEq, Int.reduceEq, Int.reduceLE, Int.reduceLT, Int.reduceNe, Int.reduceSub, Int.reduceToNat, Nat.reduceAdd, Nat.reduceBEq, Nat.reduceEqDiff, Nat.reduceLT, Nat.reduceLeDiff, Nat.reduceMul, Nat.reduceSub, reduceCtorEq, reduceIte, hx]) : p := (e x).mpr h
theorem evx2 {p q a b : Prop} (x : a) (y : b) (h : q) (e : a → b → p = q := by intro hx hy; conv => lhs; simp only [↓kOps_app, ↓evOps_nil, ↓evOps_cons, go_sem, Int.reduceAdd, Int.reduceBEq, Int.reduceEq, Int.reduceLE, Int.reduceLT, Int.reduceNe, Int.reduceSub, Int.reduceToNat, Nat.reduceAdd, Nat.reduceBEq, Nat.reduceEqDiff, Nat.reduceLT, Nat.reduceLeDiff, Nat.reduceMul, Nat.reduceSub, reduceCtorEq, reduceIte, hx, hy]) : p := (e x y).mpr h
theorem evx3 {p q a b c : Prop} (x : a) (y : b) (z : c) (h : q) (e : a → b → c → p = q := by intro hx hy hz; conv => lhs; simp only [↓kOps_app, ↓evOps_nil, ↓evOps_cons, go_sem, Int.reduceAdd, Int.reduceBEq, Int.reduceEq, Int.reduceLE, Int.reduceLT, Int.reduceNe, Int.reduceSub, Int.reduceToNat, Nat.reduceAdd, Nat.reduceBEq, Nat.reduceEqDiff, Nat.reduceLT, Nat.reduceLeDiff, Nat.reduceMul, Nat.reduceSub, reduceCtorEq, reduceIte, hx, hy, hz]) : p := (e x y z).mpr h
theorem evx4 {p q a b c d : Prop} (x : a) (y : b) (z : c) (u : d) (h : q) (e : a → b → c → d → p = q := by intro hx hy hz hu; conv => lhs; simp only [↓kOps_app, ↓evOps_nil, ↓evOps_cons, go_sem, Int.reduceAdd, Int.reduceBEq, Int.reduceEq, Int.reduceLE, Int.reduceLT, Int.reduceNe, Int.reduceSub, Int.reduceToNat, Nat.reduceAdd, Nat.reduceBEq, Nat.reduceEqDiff, Nat.reduceLT, Nat.reduceLeDiff, Nat.reduceMul, Nat.reduceSub, reduceCtorEq, reduceIte, hx, hy, hz, hu]) : p := (e x y z u).mpr h
theorem evx5 {p q a b c d f : Prop} (x : a) (y : b) (z : c) (u : d) (v : f) (h : q) (e : a → b → c → d → f → p = q := by intro hx hy hz hu hv; conv => lhs; simp only [↓kOps_app, ↓evOps_nil, ↓evOps_cons, go_sem, Int.reduceAdd, Int.reduceBEq, Int.reduceEq, Int.reduceLE, Int.reduceLT, Int.reduceNe, Int.reduceSub, Int.reduceToNat, Nat.reduceAdd, Nat.reduceBEq, Nat.reduceEqDiff, Nat.reduceLT, Nat.reduceLeDiff, Nat.reduceMul, Nat.reduceSub, reduceCtorEq, reduceIte, hx, hy, hz, hu, hv]) : p := (e x y z u v).mpr h
theorem fxl {p q : Prop} (h : q) (e : p = q := by conv => lhs; simp only [retSV, SV.mv, mvs, subL, List.map_nil, List.map_cons, SObj.mv, posOf, back, List.length_cons, List.length_nil, List.getElem?_cons_zero, List.getElem?_cons_succ, Option.map_some, Nat.reduceAdd, Nat.reduceLT, Nat.zero_add, Nat.lt_add_one, List.getD_cons_zero, List.getD_cons_succ, reduceIte, Nat.reduceEqDiff, Env.get, Env.put, and_true, true_and, implies_true, Nat.reduceSub, Nat.reduceLeDiff, setAll, List.set, List.cons_append, List.nil_append, List.zip_cons_cons, List.zip_nil_left]) : p := e.mpr h
theorem rtl {p q : Prop} (h : q) (e : p = q := by conv => lhs; simp only [retSV, SV.mv, mvs, subL, List.map_nil, List.map_cons, SObj.mv, posOf, back, List.length_cons, List.length_nil, List.getElem?_cons_zero, List.getElem?_cons_succ, Option.map_some, Nat.reduceAdd, Nat.reduceLT, Nat.zero_add, Nat.lt_add_one, List.getD_cons_zero, List.getD_cons_succ, reduceIte, Nat.reduceEqDiff, Env.get, Env.put, and_true, true_and, implies_true]) : p := e.mpr h
theorem mT {p : Prop} (h : p := by simp only [retSV, SV.mv, mvs, subL, List.map_nil, List.map_cons, SObj.mv, posOf, back, List.length_cons, List.length_nil, List.getElem?_cons_zero, List.getElem?_cons_succ, Option.map_some, Nat.reduceAdd, Nat.reduceLT, Nat.zero_add, Nat.lt_add_one, List.getD_cons_zero, List.getD_cons_succ, reduceIte, Nat.reduceEqDiff, Env.get, Env.put, and_true, true_and, implies_true]) : p := h
theorem mU {p : Prop} (h : p := by simp only [retSV, SV.mv, mvs, subL, List.map_nil, List.map_cons, SObj.mv, posOf, back, List.length_cons, List.length_nil, List.getElem?_cons_zero, List.getElem?_cons_succ, Option.map_some, Nat.reduceAdd, Nat.reduceLT, Nat.zero_add, Nat.lt_add_one, List.getD_cons_zero, List.getD_cons_succ, reduceIte, Nat.reduceEqDiff, Env.get, Env.put, and_true, true_and, implies_true, List.cons_append, List.nil_append]) : p := h
theorem mB {p : Prop} (h : p := by simp only [go_sem, reduceIte, Nat.reduceEqDiff, Nat.reduceAdd, Nat.reduceLT]) : p := h
theorem mR {p : Prop} (h : p := by intro N; (try simp only [go_sem, reduceIte, Nat.reduceEqDiff, Nat.reduceAdd, Nat.reduceLT]); try rfl) : p := h
theorem mA {p : Prop} (h : p := by simp only [resAll, resSV, ↓kOps_app, ↓evOps_nil, ↓evOps_cons, go_sem, Int.reduceAdd, Int.reduceBEq, Int.reduceEq, Int.reduceLE, Int.reduceLT, Int.reduceNe, Int.reduceSub, Int.reduceToNat, Nat.reduceAdd, Nat.reduceBEq, Nat.reduceEqDiff, Nat.reduceLT, Nat.reduceLeDiff, Nat.reduceMul, Nat.reduceSub, reduceCtorEq, reduceIte]; rfl) : p := h
theorem mO {p : Prop} (h : p := by simp only [resObs, resOb, ↓kOps_app, ↓evOps_nil, ↓evOps_cons, go_sem, Int.reduceAdd, Int.reduceBEq, Int.reduceEq, Int.reduceLE, Int.reduceLT, Int.reduceNe, Int.reduceSub, Int.reduceToNat, Nat.reduceAdd, Nat.reduceBEq, Nat.reduceEqDiff, Nat.reduceLT, Nat.reduceLeDiff, Nat.reduceMul, Nat.reduceSub, reduceCtorEq, reduceIte]) : p := h
theorem mK {p : Prop} (h : p := by simp only [keep_cons, keep_nil, keep_done, List.contains_lit_cons, List.contains_lit_nil, List.erase_lit_cons, List.erase_lit_nil, reduceIte, Nat.reduceEqDiff, Bool.false_eq_true]; rfl) : p := h
theorem sq {P : Program} {c : Cx} {e : Env} {σ : List SObj} {Q : Exit → Env → List SObj → Prop} {x y : Code} (h : ∀ K : Env → List SObj → Prop, (∀ {e' σ'}, WPS P c y e' σ' Q → K e' σ') → WPS P c x e σ fun ex e' σ' => match ex with | .normal => K e' σ' | ex => Q ex e' σ') : WPS P c (.seq x y) e σ Q :=
  wps_seq fun K hK => h K fun {e' σ'} hw => hK e' σ' hw
theorem rg {P : Program} {c : Cx} {e : Env} {σ : List SObj} {Q : Exit → Env → List SObj → Prop} {id : Nat} {ops : Array Oper} (k : Nat) (h : evOps P (slotOf ops) ops.toList e (σ ++ List.replicate k .unborn) σ.length fun e' σ' => Q .normal e' σ') (hd : dstOK c.nt ops = true := by rw [hnt]; rfl) : WPS P c (.region id ops false) e σ Q := wps_region hd k h
theorem rgn {P : Program} {c : Cx} {e : Env} {σ : List SObj} {Q : Exit → Env → List SObj → Prop} {id : Nat} {ops : Array Oper} {q : Prop} (k : Nat) (h : q) (hd : dstOK c.nt ops = true := by rw [hnt]; rfl)
    (he : (evOps P (slotOf ops) ops.toList e (σ ++ List.replicate k .unborn) σ.length fun e' σ' => Q .normal e' σ') = q := by conv => lhs; simp only [↓kOps_app, ↓evOps_nil, ↓evOps_cons, go_sem, Int.reduceAdd, Int.reduceBEq, Int.reduceEq, Int.reduceLE, Int.reduceLT, Int.reduceNe, Int.reduceSub, Int.reduceToNat, Nat.reduceAdd, Nat.reduceBEq, Nat.reduceEqDiff, Nat.reduceLT, Nat.reduceLeDiff, Nat.reduceMul, Nat.reduceSub, reduceCtorEq, reduceIte]) : WPS P c (.region id ops false) e σ Q := wps_region hd k (he.mpr h)
theorem dr {P : Program} {c : Cx} {e : Env} {σ : List SObj} {Q : Exit → Env → List SObj → Prop} {id : Nat} {ops : Array Oper} (k : Nat) (ms : List Nat) (hm : P.follows .mixedOrders = true) (h : evDraw P (slotOf ops) ms ops.toList 0 e (σ ++ List.replicate k .unborn) σ.length [] fun e' σ' => Q .normal e' σ')
    (hd : dstOK c.nt ops = true := by rw [hnt]; rfl) (hs : drawOK ops = true := by kernel_rfl) (hms : masksOf ops.toList [] = ms := by kernel_rfl) : WPS P c (.region id ops true) e σ Q := wps_drawL hm hd hs k hms h
theorem cd {P : Program} {c : Cx} {e : Env} {σ : List SObj} {Q : Exit → Env → List SObj → Prop} {x : Operand} {t f : Code} {b : Bool} (hx : opnd e x = .u (.b b)) (ht : b = true → WPS P c t e σ Q) (hf : b = false → WPS P c f e σ Q) : WPS P c (.cond x t f) e σ Q := wps_cond hx ht hf
theorem bk {P : Program} {c : Cx} {e : Env} {σ : List SObj} {Q : Exit → Env → List SObj → Prop} {id : Nat} {b : Code} (h : ∀ K : Env → List SObj → Prop, (∀ {e' σ'}, Q .normal e' σ' → K e' σ') → WPS P c b e σ fun ex e' σ' => match ex with | .normal => K e' σ' | .exit id' => if id' = id then K e' σ' else Q (.exit id') e' σ' | ex => Q ex e' σ') : WPS P c (.block id b) e σ Q :=
  wps_blk fun K hK => h K fun {e' σ'} hw => hK e' σ' hw
theorem cof {P : Program} {f : FuncId} {fn : Func} {body : Code} {args : List SV} {σ : List SObj} {K : SV → List SObj → Prop} (nt : Nat) (rs : List ResultVar) (hf : P.funcs[f]? = some fn) (hnt : fn.ntmps = nt)
    (h : ∀ c : Cx, c.nt = nt → c.β0.length = σ.length → WPS P c body (enterEnv 0 args) σ fun ex e' σ' => match ex with
      | .normal => RetL P rs e' σ' σ.length K
      | .ret => RetL P rs e' σ' σ.length K
      | _ => False) (hb : fn.body = some body := by rfl) (hrs : fn.results.toList = rs := by rfl) (hn : args.length ≤ nt := by exact Nat.le_of_ble_eq_true rfl) : CallT P f args σ K := callT_ofL nt rs hf hb hnt hrs hn h
theorem wi1 (i : Nat) (h : i < 9223372036854775806 := by omega) : IntKind.i64.wrap ((i : Int) + 1) = ((i + 1 : Nat) : Int) := by rw [wrap64 (by omega) (by omega)]; omega
end Go.Nm
