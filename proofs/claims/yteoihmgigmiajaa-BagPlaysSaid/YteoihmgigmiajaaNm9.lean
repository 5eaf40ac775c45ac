/- Maps, functions, slice literals: what they do, by names. -/
import Derived.Test.YteoihmgigmiajaaNm8
set_option linter.all false
set_option linter.unusedSimpArgs false
set_option linter.unusedVariables false
namespace Go.Nm

/-! ### maps -/
def keyEq : PV → PV → Option Bool
  | .i k a, .i k' b => if k = k' then some (a == b) else none
  | .s a, .s b => some (a == b)
  | .b a, .b b => some (a == b)
  | _, _ => none

def keysOK (k : PV) (es : List (PV × PV)) : Prop := ∀ e ∈ es, (keyEq k e.1).isSome = true

def findPV (k : PV) : List (PV × PV) → Option PV
  | [] => none
  | e :: es => if keyEq k e.1 = some true then some e.2 else findPV k es

def updPV (k x : PV) : List (PV × PV) → List (PV × PV)
  | [] => [(k, x)]
  | e :: es => if keyEq k e.1 = some true then (k, x) :: es else e :: updPV k x es

def delPV (k : PV) : List (PV × PV) → List (PV × PV)
  | [] => []
  | e :: es => if keyEq k e.1 = some true then es else e :: delPV k es

def zeroPV (ti : TI) : PV := if ti.zagg then .agg ti.zero else ti.zero.headD .np

def keyKind (P : Program) (k : TypeId) (x : PV) : Bool :=
  match tiOf P k with
  | some ti => match ti.kind, x with
    | .int _, .i _ _ | .str, .s _ | .bool, .b _ => true
    | _, _ => false
  | none => false

theorem sameNow_ok {P : Program} {Φ : Fz} {kt : TypeId} {k k' : PV} {u v : Value} {d : TypeDesc} {b : Bool} (hk : keyKind P kt k = true) (hd : P.underlying kt = some d) (hu : VP Φ k u) (hv : VP Φ k' v) (hb : keyEq k k' = some b) :
    Instr.sameNow d u v = some b := by
  unfold keyKind at hk
  split at hk
  · rename_i ti ht
    split at hk
    · rename_i q a c hkind
      obtain rfl := Option.some.inj ((int_of ht hkind).symm.trans hd)
      cases hu
      cases k' <;> try (simp [keyEq] at hb; done)
      cases hv
      simp only [keyEq] at hb
      simpa [Instr.sameNow] using hb
    · rename_i a hkind
      obtain rfl := Option.some.inj ((str_of ht hkind).symm.trans hd)
      cases hu
      cases k' <;> try (simp [keyEq] at hb; done)
      cases hv
      simp only [keyEq] at hb
      simp only [Instr.sameNow]
      rw [beq_toListBytes, toList_mk, toList_mk]
      exact hb
    · rename_i a hkind
      obtain rfl := Option.some.inj ((bool_of ht hkind).symm.trans hd)
      cases hu
      cases k' <;> try (simp [keyEq] at hb; done)
      cases hv
      simp only [keyEq] at hb
      simpa [Instr.sameNow] using hb
    · cases hk
  · cases hk

/-- the place at which a key stands -/
def idxPV (k : PV) : List (PV × PV) → Option Nat
  | [] => none
  | e :: es => if keyEq k e.1 = some true then some 0 else (idxPV k es).map (· + 1)

theorem findPV_idx (k : PV) : ∀ es : List (PV × PV), findPV k es = (idxPV k es).bind fun i => (es[i]?).map (·.2)
  | [] => rfl
  | e :: es => by
    unfold findPV idxPV
    by_cases h : keyEq k e.1 = some true
    · simp [h]
    · simp only [if_neg h, findPV_idx k es]
      cases idxPV k es <;> simp

theorem updPV_idx (k x : PV) : ∀ es : List (PV × PV), updPV k x es = match idxPV k es with | some i => es.set i (k, x) | none => es ++ [(k, x)]
  | [] => rfl
  | e :: es => by
    unfold updPV idxPV
    by_cases h : keyEq k e.1 = some true
    · simp [h]
    · simp only [if_neg h, updPV_idx k x es]
      cases idxPV k es <;> simp

theorem idxPV_some {k : PV} : ∀ {es : List (PV × PV)} {i : Nat}, idxPV k es = some i → ∃ e, es[i]? = some e ∧ keyEq k e.1 = some true
  | e :: es, i, h => by
    unfold idxPV at h
    by_cases hk : keyEq k e.1 = some true
    · rw [if_pos hk] at h; cases h; exact ⟨e, rfl, hk⟩
    · rw [if_neg hk] at h
      obtain ⟨j, hj, rfl⟩ := Option.map_eq_some_iff.1 h
      obtain ⟨e', h1, h2⟩ := idxPV_some hj
      exact ⟨e', by simpa using h1, h2⟩

theorem findNow_ok {P : Program} {Φ : Fz} {kt : TypeId} {k : PV} {u : Value} {d : TypeDesc} (hk : keyKind P kt k = true) (hd : P.underlying kt = some d) (hu : VP Φ k u) :
    ∀ (es : List (PV × PV)) (es' : List MapEntry) (n : Nat), es'.length = es.length → (∀ (i : Nat) q x e, es[i]? = some (q, x) → es'[i]? = some e → VP Φ q e.key ∧ VP Φ x e.val) → keysOK k es →
      ∃ r, Instr.findNow d u es' n = some r ∧ match idxPV k es with | some i => ∃ e, es'[i]? = some e ∧ r = some (n + i, e.val) | none => r = none
  | [], es', n, hl, _, _ => by
    have : es' = [] := List.eq_nil_of_length_eq_zero (by simpa using hl)
    subst this
    exact ⟨none, rfl, rfl⟩
  | (q, x) :: es, es', n, hl, hall, hok => by
    obtain ⟨e, r, rfl⟩ : ∃ e r, es' = e :: r := by
      cases es' with
      | nil => simp at hl
      | cons e r => exact ⟨e, r, rfl⟩
    have h0 := hall 0 q x e rfl rfl
    obtain ⟨b, hb⟩ := Option.isSome_iff_exists.1 (hok (q, x) (by simp))
    have hs := sameNow_ok hk hd hu h0.1 hb
    unfold Instr.findNow
    rw [hs]
    cases b with
    | true =>
      refine ⟨some (n, e.val), rfl, ?_⟩
      simp only at hb
      simp [idxPV, hb]
    | false =>
      obtain ⟨r', h1, h2⟩ := findNow_ok hk hd hu es r (n + 1) (by simpa using hl) (fun i q x e h1 h2 => hall (i + 1) q x e (by simpa using h1) (by simpa using h2)) (fun e he => hok e (by simp [he]))
      refine ⟨r', h1, ?_⟩
      simp only at hb
      have hne : ¬ keyEq k q = some true := by rw [hb]; simp
      simp only [idxPV, if_neg hne]
      cases hi : idxPV k es with
      | none => rw [hi] at h2; simpa using h2
      | some i =>
        rw [hi] at h2
        obtain ⟨e', h3, h4⟩ := h2
        exact ⟨e', by simpa using h3, by rw [h4]; simp only [Option.some.injEq, Prod.mk.injEq, and_true]; omega⟩

theorem run_checkKey {P : Program} {kt : TypeId} {k : PV} {u : Value} {Φ : Fz} (hk : keyKind P kt k = true) (hu : VP Φ k u) (b : Bool) (n : Nat) (w : World) : (Instr.checkKey b (n + 1) kt u).run P w = .ok () w := by
  unfold keyKind at hk
  split at hk
  · rename_i ti ht
    split at hk
    · rename_i q a c hkind; cases hu; simp [Instr.checkKey, run_underlying (int_of ht hkind)]
    · rename_i a hkind; cases hu; simp [Instr.checkKey, run_underlying (str_of ht hkind)]
    · rename_i a hkind; cases hu; simp [Instr.checkKey, run_underlying (bool_of ht hkind)]
    · cases hk
  · cases hk

theorem keyKind_under {P : Program} {kt : TypeId} {k : PV} (hk : keyKind P kt k = true) : ∃ d, P.underlying kt = some d := by
  unfold keyKind at hk
  split at hk
  · rename_i ti ht
    obtain ⟨i, d, z, _, h2, _⟩ := tiOf_inv ht
    exact ⟨d, h2⟩
  · cases hk

theorem run_findKey {P : Program} {Φ : Fz} {kt : TypeId} {k : PV} {u : Value} (hk : keyKind P kt k = true) (hu : VP Φ k u) {es : List (PV × PV)} {es' : List MapEntry} (hl : es'.length = es.length)
    (hall : ∀ (i : Nat) q x e, es[i]? = some (q, x) → es'[i]? = some e → VP Φ q e.key ∧ VP Φ x e.val) (hok : keysOK k es) (w : World) :
    ∃ r, (Instr.findKey kt u es').run P w = .ok r w ∧ match idxPV k es with | some i => ∃ e, es'[i]? = some e ∧ r = some (i, e.val) | none => r = none := by
  obtain ⟨d, hd⟩ := keyKind_under hk
  obtain ⟨r, h1, h2⟩ := findNow_ok hk hd hu es es' 0 hl hall hok
  refine ⟨r, by simp [Instr.findKey, run_underlying hd, h1], ?_⟩
  simpa using h2

theorem zeroPV_ok {P : Program} {t : TypeId} {ti : TI} (Φ : Fz) (h : tiOf P t = some ti) (h0 : ti.zagg = false → ti.zero ≠ []) : ∃ z, (∀ w, (zeroValue t).run P w = .ok z w) ∧ VP Φ (zeroPV ti) z := by
  obtain ⟨i, d, z, h1, h2, h3, h4, h5, h6, h7, h8⟩ := tiOf_inv h
  obtain ⟨hl, hj⟩ := pvs_ok (Φ := Φ) h4
  refine ⟨z, fun w => by simp [zeroValue, typeInfo, h1, h3], ?_⟩
  unfold zeroPV
  cases hz : ti.zagg with
  | true =>
    rw [hz] at h8
    cases z <;> try (simp [isAggV] at h8; done)
    rename_i cs
    have := VP.agg (Φ := Φ) ti.zero cs.toList (by simpa [Value.cells] using hl.symm) fun j x v hx hv => hj j x v hx (by simpa [Value.cells] using hv)
    simpa using this
  | false =>
    rw [hz] at h8
    have hzc : z.cells = #[z] := by cases z <;> first | rfl | (simp [isAggV] at h8)
    rw [hzc] at hj hl
    simp only [Bool.false_eq_true, if_false]
    cases hzz : ti.zero with
    | nil => exact absurd hzz (h0 hz)
    | cons p r => exact hj 0 p z (by rw [hzz]; rfl) rfl

/-! ### look-ups -/
def evLookup (P : Program) (σ : Nat → SObj) (t : TypeId) (m k : SV) (ok : Bool) : Ev :=
  match tiOf P t, k with
  | some ti, .u kp => match ti.kind with
    | .map kt et => match tiOf P et with
      | some eti => match m with
        | .h n => match σ n with
          | .map es => .ok (keyKind P kt kp = true ∧ keysOK kp es ∧ (eti.zagg = false → eti.zero ≠ [])) [(n, .map es)]
              (if ok then .tup [.u ((findPV kp es).getD (zeroPV eti)), .u (.b (findPV kp es).isSome)] else .u ((findPV kp es).getD (zeroPV eti))) []
          | _ => .bad
        | _ => .bad
      | none => .bad
    | _ => .bad
  | _, _ => .bad

theorem op_lookup {P : Program} {o : Oper} {g : Operand → SV} {t : TypeId} {x y : Operand} {c : Bool} (ho : o.op = .lookup t x y c) {σf : Nat → SObj} {ob : Prop} {rd : List (Nat × SObj)} {r : SV} {wr : List (Nat × SObj)}
    (he : evLookup P σf t (g x) (g y) c = .ok ob rd r wr) (hob : ob) : OpR P o g rd r wr := by
  unfold evLookup at he
  split at he <;> try cases he
  rename_i ti kp ht hky
  split at he <;> try cases he
  rename_i kt et hk
  split at he <;> try cases he
  rename_i eti het
  split at he <;> try cases he
  rename_i n hx
  split at he <;> try cases he
  rename_i es hσ
  obtain ⟨q1, q2, q3⟩ := hob
  refine OpR.read fun w0 ω0 β Φ ω σ w ρ hR hg hrd => ?_
  obtain ⟨v, hβ, b, es', ck, rfl, hω, hh, hs, hst, hall⟩ := hR.at_ (hrd n (.map es) (by simp))
  have hv := ((hx ▸ hg x : V β Φ (.h n) (ρ x)).inv_h).1
  rw [hβ] at hv
  have hv := (Option.some.inj hv).symm
  have hkv : VP Φ kp (ρ y) := by
    have := (hky ▸ hg y : V β Φ (.u kp) (ρ y))
    cases this; assumption
  obtain ⟨rr, hr1, hr2⟩ := run_findKey q1 hkv (es' := es'.toList) (by simpa using hs) (fun i q x e h1 h2 => hall i q x e h1 (by simpa using h2)) q2 w
  obtain ⟨z, hz1, hz2⟩ := zeroPV_ok Φ het q3
  have hck := run_checkKey q1 hkv es'.isEmpty 9999 w
  rw [findPV_idx]
  have fin : ∀ (u : Value) (b : Bool) (p : PV), VP Φ p u → (Instr.lookup t (ρ x) (ρ y) c).run P w = .ok (if c then .tuple #[u, .bool b] else u) w →
      ∃ v, (execOp ρ o).run P w = .ok (.value v) w ∧ V β Φ (if c = true then .tup [.u p, .u (.b b)] else .u p) v := by
    intro u b p hp hrun
    refine ⟨if c then .tuple #[u, .bool b] else u, by simp only [execOp, ho, Sem.run_bind, hrun, Result.andThen_ok, Sem.run_pure], ?_⟩
    cases c with
    | true =>
      refine .tup _ [u, .bool b] rfl fun j y v hy hv => ?_
      match j with
      | 0 => simp at hy hv; subst hy hv; exact .u _ _ hp
      | 1 => simp at hy hv; subst hy hv; exact V.mk_b _
      | j + 2 => simp at hy
    | false => exact .u _ _ hp
  cases hi : idxPV kp es with
  | none =>
    rw [hi] at hr2
    subst hr2
    refine fin z false (zeroPV eti) hz2 ?_
    simp only [Instr.lookup, Sem.run_bind, run_underlying (map_of ht hk), Result.andThen_ok, hv, getObj, Sem.run, hh, Sem.run_pure, hck, hr1, hz1]
  | some i =>
    rw [hi] at hr2
    obtain ⟨e, he1, rfl⟩ := hr2
    obtain ⟨q, hq, _⟩ := idxPV_some hi
    have hp := (hall i q.1 q.2 e hq (by simpa using he1)).2
    have hfin := fin e.val true q.2 hp (by
      simp only [Instr.lookup, Sem.run_bind, run_underlying (map_of ht hk), Result.andThen_ok, hv, getObj, Sem.run, hh, Sem.run_pure, hck, hr1])
    simpa [hq] using hfin

/-! ### stores into a map -/
def pvOf : SV → Option PV
  | .u x => some x
  | .agg cs => (pures cs).map .agg
  | _ => none

theorem pvOf_ok {β : List Value} {Φ : Fz} {x : SV} {p : PV} {v : Value} (h : pvOf x = some p) (hv : V β Φ x v) : VP Φ p v := by
  unfold pvOf at h
  split at h <;> try cases h
  · cases hv; assumption
  · rename_i cs
    obtain ⟨l, hl, rfl⟩ := Option.map_eq_some_iff.1 h
    obtain ⟨vs, rfl, hlen, hj⟩ := hv.inv_agg
    have e := pures_ok hl
    subst e
    refine .agg _ _ (by simpa using hlen) fun j y u hy hu => ?_
    have := hj j (.u y) u (by rw [List.getElem?_map, hy]; rfl) hu
    cases this; assumption

def evMapUpdate (P : Program) (σ : Nat → SObj) (t : TypeId) (m k x : SV) : Ev :=
  match tiOf P t, k, pvOf x with
  | some ti, .u kp, some xp => match ti.kind with
    | .map kt _ => match m with
      | .h n => match σ n with
        | .map es => .ok (keyKind P kt kp = true ∧ keysOK kp es) [(n, .map es)] .j [(n, .map (updPV kp xp es))]
        | _ => .bad
      | _ => .bad
    | _ => .bad
  | _, _, _ => .bad

theorem sameBits_key {P : Program} {Φ : Fz} {kt : TypeId} {k k' : PV} {u v : Value} (hk : keyKind P kt k = true) (hu : VP Φ k u) (hv : VP Φ k' v) (hb : keyEq k k' = some true) : v = u ∧ ∀ n, Instr.sameBits n v u = true := by
  unfold keyKind at hk
  split at hk
  · split at hk
    · cases hu
      cases k' <;> try (simp [keyEq] at hb; done)
      cases hv
      simp only [keyEq] at hb
      split at hb <;> simp at hb
      rename_i h1; subst h1 hb
      exact ⟨rfl, fun n => by cases n <;> simp [Instr.sameBits]⟩
    · cases hu
      cases k' <;> try (simp [keyEq] at hb; done)
      cases hv
      simp only [keyEq] at hb
      simp at hb; subst hb
      rename_i l _
      have he : ((⟨l.toArray⟩ : ByteArray) == ⟨l.toArray⟩) = true := by rw [beq_toListBytes]; simp
      exact ⟨rfl, fun n => by cases n <;> simp [Instr.sameBits, he]⟩
    · cases hu
      cases k' <;> try (simp [keyEq] at hb; done)
      cases hv
      simp only [keyEq] at hb
      simp at hb; subst hb
      exact ⟨rfl, fun n => by cases n <;> simp [Instr.sameBits]⟩
    · cases hk
  · cases hk

theorem heap_setObj {w : World} {b : Nat} {o : Obj} (h : b < w.heap.size) : ({ w with heap := w.heap.setIfInBounds b o } : World).heap[b]? = some o ∧ ∀ k, k ≠ b → ({ w with heap := w.heap.setIfInBounds b o } : World).heap[k]? = w.heap[k]? := by
  constructor
  · simp [h]
  · intro k hk; simp [Ne.symm hk]

theorem op_mapUpdate {P : Program} {o : Oper} {g : Operand → SV} {t : TypeId} {x y z : Operand} (ho : o.op = .mapUpdate t x y z ∨ o.op = .insert t x y z) {σf : Nat → SObj} {ob : Prop} {rd : List (Nat × SObj)} {r : SV} {wr : List (Nat × SObj)}
    (he : evMapUpdate P σf t (g x) (g y) (g z) = .ok ob rd r wr) (hob : ob) : OpR P o g rd r wr := by
  unfold evMapUpdate at he
  split at he <;> try cases he
  rename_i ti kp xp ht hky hzp
  split at he <;> try cases he
  rename_i kt et hk
  split at he <;> try cases he
  rename_i n hx
  split at he <;> try cases he
  rename_i es hσ
  obtain ⟨q1, q2⟩ := hob
  intro w0 ω0 β Φ ω σ w ρ hR hg hrd
  have hn := hrd n (.map es) (by simp)
  obtain ⟨v, hβ, b, es', ck, rfl, hω, hh, hs, hst, hall⟩ := hR.at_ hn
  have hv := ((hx ▸ hg x : V β Φ (.h n) (ρ x)).inv_h).1
  rw [hβ] at hv
  have hv := (Option.some.inj hv).symm
  have hkv : VP Φ kp (ρ y) := by
    have := (hky ▸ hg y : V β Φ (.u kp) (ρ y))
    cases this; assumption
  have hzv : VP Φ xp (ρ z) := pvOf_ok hzp (hg z)
  obtain ⟨rr, hr1, hr2⟩ := run_findKey q1 hkv (es' := es'.toList) (by simpa using hs) (fun i q x e h1 h2 => hall i q x e h1 (by simpa using h2)) q2 w
  have hck := run_checkKey q1 hkv false 9999 w
  have hblt : b < w.heap.size := hR.lt b (by omega)
  have fin : ∀ (es2 : Array MapEntry) (ck2 : Nat), (Instr.mapUpdate t (ρ x) (ρ y) (ρ z)).run P w = .ok () { w with heap := w.heap.setIfInBounds b (.map es2 ck2) } →
      es2.size = (updPV kp xp es).length → Stamps es2 ck2 → (∀ (i : Nat) q x e, (updPV kp xp es)[i]? = some (q, x) → es2[i]? = some e → VP Φ q e.key ∧ VP Φ x e.val) →
      ∃ nx v w' β' Φ' ω', (execOp ρ o).run P w = .ok nx w' ∧ (nx = .value v ∨ nx = .skip ∧ v = undef) ∧ BExt β β' ∧ β'.length = β.length ∧ Φ.le Φ' ∧ V β' Φ' .j v ∧ Rep w0 ω0 β' (setAll σ [(n, .map (updPV kp xp es))]) Φ' ω' w' := by
    intro es2 ck2 h1 h2 h3 h4
    obtain ⟨k1, k2⟩ := heap_setObj (o := .map es2 ck2) hblt
    refine ⟨.skip, undef, { w with heap := w.heap.setIfInBounds b (.map es2 ck2) }, β, Φ, ω, ?_, .inr ⟨rfl, rfl⟩, BExt.refl _, rfl, Fz.le_refl _, .j _, ?_⟩
    · rcases ho with ho | ho <;> simp only [execOp, ho, Sem.run_bind, h1, Result.andThen_ok, Sem.run_pure]
    · exact hR.turn hn hβ hω rfl rfl rfl (by simp) k2 ⟨b, es2, ck2, rfl, hω, k1, h2, h3, h4⟩
  rw [updPV_idx] at fin
  rw [updPV_idx]
  cases hi : idxPV kp es with
  | none =>
    rw [hi] at hr2
    subst hr2
    rw [hi] at fin
    simp only at fin ⊢
    refine fin (es'.push { key := ρ y, val := ρ z, born := ck }) (ck + 1) ?_ (by simp [hs]) ?_ ?_
    · simp only [Instr.mapUpdate, Sem.run_bind, run_underlying (map_of ht hk), Result.andThen_ok, hv, getObj, Sem.run, hh, Sem.run_pure, hck, hr1, setObj]
    · refine ⟨fun e he => ?_, ?_⟩
      · simp at he
        rcases he with he | he
        · have := hst.1 e (by simpa using he); omega
        · subst he; simp
      · rw [Array.toList_push, List.map_append]
        refine List.nodup_append.2 ⟨hst.2, by simp, ?_⟩
        intro a ha b' hb'
        simp at hb'
        subst hb'
        obtain ⟨e, he, rfl⟩ := List.mem_map.1 ha
        have := hst.1 e he; omega
    · intro i q x e h1 h2
      rw [Array.getElem?_push] at h2
      by_cases hlt : i < es.length
      · rw [List.getElem?_append_left hlt] at h1
        rw [if_neg (by omega)] at h2
        exact hall i q x e h1 h2
      · have : i = es.length := by
          have := (List.getElem?_eq_some_iff.1 h1).1; simp at this; omega
        subst this
        rw [List.getElem?_append_right (by omega)] at h1
        simp at h1
        obtain ⟨rfl, rfl⟩ := h1
        rw [if_pos (by omega)] at h2
        cases h2
        exact ⟨hkv, hzv⟩
  | some i =>
    rw [hi] at hr2
    obtain ⟨e, he1, rfl⟩ := hr2
    obtain ⟨q, hq, hqe⟩ := idxPV_some hi
    have he1' : es'[i]? = some e := by simpa using he1
    have hp := (hall i q.1 q.2 e hq he1').1
    obtain ⟨hkey, hbits⟩ := sameBits_key q1 hkv hp hqe
    rw [hi] at fin
    simp only at fin ⊢
    have hilt : i < es.length := (List.getElem?_eq_some_iff.1 hq).1
    refine fin (es'.modify i fun e => { e with key := ρ y, val := ρ z }) ck ?_ (by simp [hs]) ?_ ?_
    · simp only [Instr.mapUpdate, Sem.run_bind, run_underlying (map_of ht hk), Result.andThen_ok, hv, getObj, Sem.run, hh, Sem.run_pure, hck, hr1, setObj, Instr.keyThatStays, he1', Option.map_some, Option.getD_some, hbits 10000, if_true]
    · have hmap : ((es'.modify i fun e => { e with key := ρ y, val := ρ z }).toList.map MapEntry.born) = es'.toList.map MapEntry.born := by
        apply List.ext_getElem?
        intro j
        simp only [List.getElem?_map, Array.getElem?_toList, Array.getElem?_modify]
        by_cases hj : i = j
        · subst hj; rw [if_pos rfl, he1']; rfl
        · rw [if_neg hj]
      refine ⟨fun e' he' => ?_, by rw [hmap]; exact hst.2⟩
      have : e'.born ∈ es'.toList.map MapEntry.born := by rw [← hmap]; exact List.mem_map.2 ⟨e', he', rfl⟩
      obtain ⟨e2, h1, h2⟩ := List.mem_map.1 this
      rw [← h2]; exact hst.1 e2 h1
    · intro j q' x' e' h1 h2
      rw [Array.getElem?_modify] at h2
      by_cases hj : i = j
      · subst hj
        rw [List.getElem?_set_self hilt] at h1
        rw [if_pos rfl, he1'] at h2
        cases h1; cases h2
        exact ⟨hkv, hzv⟩
      · rw [List.getElem?_set_ne hj] at h1
        rw [if_neg hj] at h2
        exact hall j q' x' e' h1 h2

theorem op_makeMap {P : Program} {o : Oper} {g : Operand → SV} {t : TypeId} (ho : o.op = .makeMap t none) (N : Nat) : OpR P o g [(N, .unborn)] (.h N) [(N, .map [])] := by
  intro w0 ω0 β Φ ω σ w ρ hR hg hrd
  obtain ⟨ω', h1, h2, h3, h4⟩ := hR.born (hrd N .unborn (by simp)) (.map #[] 0) (.map []) (.map (some w.heap.size)) fun ω' β' hω hext =>
    ⟨w.heap.size, #[], 0, rfl, hω, heap_alloc_new w _, rfl, ⟨by simp, by simp⟩, by simp⟩
  refine ⟨.value (.map (some w.heap.size)), _, w.alloc (.map #[] 0), _, Φ, ω', ?_, .inl rfl, h1, h2, Fz.le_refl _, .h N _ h3 rfl, h4⟩
  simp [execOp, ho, Instr.makeMap]

/-! ### functions -/
def evFunc (fn : Fn) (first caps : List SV) : Option SV :=
  match fn, first with
  | .func f, [] => match pures caps with
    | some l => some (.u (.fn f l))
    | none => some (.fn f caps)
  | _, _ => none

theorem op_makeFunc {P : Program} {o : Oper} {g : Operand → SV} {fn : Fn} {first caps : Array Operand} (ho : o.op = .makeFunc fn first caps) {r : SV} (he : evFunc fn (first.toList.map g) (caps.toList.map g) = some r) : OpR P o g [] r [] := by
  unfold evFunc at he
  split at he <;> try cases he
  rename_i f hf
  have hfirst : first = #[] := by
    have : first.toList = [] := by simpa using hf
    simpa using this
  subst hfirst
  refine OpR.pure fun β Φ ρ w hg => ⟨.func (.func f) #[] (caps.toList.map ρ).toArray, by simp [execOp, ho, Instr.makeFunc, ← Array.toList_map], ?_⟩
  have hrel : ∀ (j : Nat) x (v : Value), (caps.toList.map g)[j]? = some x → (caps.toList.map ρ)[j]? = some v → V β Φ x v := by
    intro j x v hx hv
    rw [List.getElem?_map] at hx hv
    obtain ⟨p, hp, rfl⟩ := Option.map_eq_some_iff.1 hx
    rw [hp] at hv
    cases hv
    exact hg p
  split at he <;> cases he
  · rename_i l hl
    have e := pures_ok hl
    refine .u _ _ (.fn f l _ (by have := congrArg List.length e; simp at this; simp [this]) fun j x v hx hv => ?_)
    have := hrel j (.u x) v (by rw [e, List.getElem?_map, hx]; rfl) hv
    cases this; assumption
  · exact .fn f _ _ (by simp) hrel
end Go.Nm
