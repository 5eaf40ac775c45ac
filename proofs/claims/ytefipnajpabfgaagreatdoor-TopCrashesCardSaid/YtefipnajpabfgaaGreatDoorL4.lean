/- Part 4 of the proof: what functions of the program do, and plain facts on what they compute. -/
import Derived.Test.YtefipnajpabfgaaGreatDoorL3
import Derived.Maps.RangeRun
import Derived.Laws.MakeOwn
import Derived.Scope
set_option linter.all false
set_option maxRecDepth 40000
set_option maxHeartbeats 16000000
set_option linter.unusedSimpArgs false
set_option linter.unusedVariables false
/- The evaluator over one operation, and over a list of operations in order. -/
namespace Go.Nm

def evPick (t : Bool) (x y : SV) : Ev :=
  match x, y with
  | .u (.b p), .u (.b q) => .ok True [] (.u (.b (cond t p q))) []
  | .u (.b p), .gd _ d (.u (.b q)) => .ok (t = false → d = true) [] (.u (.b (cond t p q))) []
  | .gd _ d (.u (.b p)), .u (.b q) => .ok (t = true → d = true) [] (.u (.b (cond t p q))) []
  | x, y => .ok True [] (if t then x else y) []

def evMax (x y : SV) : Ev :=
  match x, y with
  | .u (.i k a), .u (.i _ b) => .ok True [] (.u (.i k (max a b))) []
  | _, _ => .bad
def evMin (x y : SV) : Ev :=
  match x, y with
  | .u (.i k a), .u (.i _ b) => .ok True [] (.u (.i k (min a b))) []
  | _, _ => .bad

theorem op_max {P : Program} {o : Oper} {g : Operand → SV} {ts : Array TypeId} {x y : Operand} (ho : o.op = .call { callee := .builtin .max, args := #[x, y], argTypes := ts }) {ob : Prop} {rd : List (Nat × SObj)} {r : SV} {wr : List (Nat × SObj)}
    (he : evMax (g x) (g y) = .ok ob rd r wr) : OpR P o g rd r wr := by
  have hex : ∀ (ρ : Operand → Value) (w : World) (v : Value), (Builtin.max_ ts o.type #[ρ x, ρ y]).run P w = .ok v w → (execOp ρ o).run P w = .ok (.value v) w := by
    intro ρ w v h
    simp [execOp, ho, resolve, invoke, builtin, h]
  unfold evMax at he
  split at he <;> cases he
  rename_i k a k' b hx hy
  refine OpR.pure fun β Φ ρ w hg => ⟨_, hex ρ w (.int k (max a b)) ?_, V.mk_i _ _⟩
  rw [(hx ▸ hg x : V β Φ (.u (.i k a)) (ρ x)).inv_i, (hy ▸ hg y : V β Φ (.u (.i k' b)) (ρ y)).inv_i]
  have : (if b > a then b else a) = max a b := by omega
  simp [Builtin.max_, Builtin.max2, this]
theorem op_min {P : Program} {o : Oper} {g : Operand → SV} {ts : Array TypeId} {x y : Operand} (ho : o.op = .call { callee := .builtin .min, args := #[x, y], argTypes := ts }) {ob : Prop} {rd : List (Nat × SObj)} {r : SV} {wr : List (Nat × SObj)}
    (he : evMin (g x) (g y) = .ok ob rd r wr) : OpR P o g rd r wr := by
  have hex : ∀ (ρ : Operand → Value) (w : World) (v : Value), (Builtin.min_ ts o.type #[ρ x, ρ y]).run P w = .ok v w → (execOp ρ o).run P w = .ok (.value v) w := by
    intro ρ w v h
    simp [execOp, ho, resolve, invoke, builtin, h]
  unfold evMin at he
  split at he <;> cases he
  rename_i k a k' b hx hy
  refine OpR.pure fun β Φ ρ w hg => ⟨_, hex ρ w (.int k (min a b)) ?_, V.mk_i _ _⟩
  rw [(hx ▸ hg x : V β Φ (.u (.i k a)) (ρ x)).inv_i, (hy ▸ hg y : V β Φ (.u (.i k' b)) (ρ y)).inv_i]
  have : (if b < a then b else a) = min a b := by omega
  simp [Builtin.min_, Builtin.min2, this]

def evXor (x : SV) : Ev :=
  match x with
  | .u (.i k n) => .ok True [] (.u (.i k (bits .xor k (if k.signed then -1 else k.max) n))) []
  | _ => .bad

theorem op_xor {P : Program} {o : Oper} {g : Operand → SV} {t : TypeId} {x : Operand} (ho : o.op = .unOp .xor t x) {ob : Prop} {rd : List (Nat × SObj)} {r : SV} {wr : List (Nat × SObj)} (he : evXor (g x) = .ok ob rd r wr) : OpR P o g rd r wr := by
  unfold evXor at he
  split at he <;> cases he
  rename_i k n hx
  refine OpR.pure fun β Φ ρ w hg => ⟨_, ?_, V.mk_i k (bits .xor k (if k.signed then -1 else k.max) n)⟩
  rw [show execOp ρ o = _ from rfl]
  simp only [execOp, ho, (hx ▸ hg x : V β Φ (.u (.i k n)) (ρ x)).inv_i, Op.unary, intBits_xor, Sem.run_bind, Sem.run_pure, Result.andThen_ok]

/-- a row with room -/
def evMakeSlice (P : Program) (N : Nat) (t : TypeId) (l c : SV) : Ev :=
  match tiOf P t, l, c with
  | some ti, .u (.i _ 0), .u (.i _ n) => match ti.kind with
    | .slice e => match tiOf P e with
      | some eti => .ok ((0 ≤ n ∧ (eti.bytes : Int) * n ≤ 140737488355328 ∧ n ≤ 9223372036854775807) ∧ 0 < eti.size ∧ eti.zero.length = eti.size) [(N, .unborn)] (.h N) [(N, .row e eti.size [])]
      | none => .bad
    | _ => .bad
  | _, _, _ => .bad

theorem op_makeSlice {P : Program} {o : Oper} {g : Operand → SV} {t : TypeId} {x y : Operand} (ho : o.op = .makeSlice t x y) {N : Nat} {ob : Prop} {rd : List (Nat × SObj)} {r : SV} {wr : List (Nat × SObj)} (he : evMakeSlice P N t (g x) (g y) = .ok ob rd r wr) (hob : ob) : OpR P o g rd r wr := by
  unfold evMakeSlice at he
  split at he <;> try cases he
  rename_i ti kl kc n ht hx hy
  split at he <;> try cases he
  rename_i e hk
  split at he <;> cases he
  rename_i eti het
  obtain ⟨⟨q1, q2, q3⟩, q4, q5⟩ := hob
  obtain ⟨i, d, z, hi1, hi2, hi3, hi4, hi5, hi6, hi7, hi8⟩ := tiOf_inv het
  intro w0 ω0 β Φ ω σ w ρ hR hg hrd
  have hN := hrd N .unborn (by simp)
  have hzl : z.cells.size = eti.size := by have := (pvs_ok (Φ := Φ) hi4).1; simp at this; omega
  have hrun := run_make (P := P) w t e i z (slice_of ht hk) hi1 hi3 kl kc 0 n (Int.le_refl _) q1 (by rw [hi6]; omega) q3
  have hcap : n.toNat ≤ maxLen := by unfold maxLen; omega
  obtain ⟨ω', β', r1, r2, r3, r4⟩ := row_grown (P := P) hR hN (e := e) (size := eti.size) (cap := n.toNat) (els := []) (cs := madeCells z.cells (n.toNat * i.size)) (by rw [size_madeCells, hi5]) (Nat.zero_le _) hcap (by simp) (by simp)
  refine ⟨_, _, _, β', Φ, ω', ?_, .inl rfl, r1, r2, Fz.le_refl _, r3, r4⟩
  have e1 := (hx ▸ hg x : V β Φ (.u (.i kl 0)) (ρ x)).inv_i
  have e2 := (hy ▸ hg y : V β Φ (.u (.i kc n)) (ρ y)).inv_i
  simp only [execOp, ho, e1, e2, Sem.run_bind, hrun, Result.andThen_ok, Sem.run_pure]
  rfl

/-- an entry taken out -/
def evDelete (P : Program) (σ : Nat → SObj) (t : TypeId) (m k : SV) : Ev :=
  match tiOf P t, k with
  | some ti, .u kp => match ti.kind with
    | .map kt _ => match m with
      | .h n => match σ n with
        | .map es => .ok (keyKind P kt kp = true ∧ keysOK kp es) [(n, .map es)] (.tup []) [(n, .map (delPV kp es))]
        | _ => .bad
      | _ => .bad
    | _ => .bad
  | _, _ => .bad

theorem delPV_idx (k : PV) : ∀ es : List (PV × PV), delPV k es = match idxPV k es with | some i => es.eraseIdx i | none => es
  | [] => rfl
  | e :: es => by
    unfold delPV idxPV
    by_cases h : keyEq k e.1 = some true
    · rw [if_pos h, if_pos h]; rfl
    · rw [if_neg h, if_neg h, delPV_idx k es]
      cases idxPV k es <;> rfl

theorem op_delete {P : Program} {o : Oper} {g : Operand → SV} {t t2 : TypeId} {x y : Operand} (ho : o.op = .call { callee := .builtin .delete, args := #[x, y], argTypes := #[t, t2] }) {σf : Nat → SObj} {ob : Prop} {rd : List (Nat × SObj)} {r : SV} {wr : List (Nat × SObj)}
    (he : evDelete P σf t (g x) (g y) = .ok ob rd r wr) (hob : ob) : OpR P o g rd r wr := by
  have hex : ∀ (ρ : Operand → Value) (w w' : World) (v : Value), (Builtin.delete_ #[t, t2] o.type #[ρ x, ρ y]).run P w = .ok v w' → (execOp ρ o).run P w = .ok (.value v) w' := by
    intro ρ w w' v h
    simp [execOp, ho, resolve, invoke, builtin, h]
  unfold evDelete at he
  split at he <;> try cases he
  rename_i ti kp ht hky
  split at he <;> try cases he
  rename_i kt et hk
  split at he <;> try cases he
  rename_i n hx
  split at he <;> cases he
  rename_i es hσ
  obtain ⟨q1, q2⟩ := hob
  intro w0 ω0 β Φ ω σ w ρ hR hg hrd
  have hn := hrd n (.map es) (by simp)
  obtain ⟨v, hβ, b, es', ck, rfl, hω, hh, hs, hst, hall⟩ := hR.at_ hn
  have hv := ((hx ▸ hg x : V β Φ (.h n) (ρ x)).inv_h).1
  rw [hβ] at hv
  have hv := (Option.some.inj hv).symm
  have hkv : VP Φ kp (ρ y) := by
    have := (hky ▸ hg y : V β Φ (.u kp) (ρ y))
    cases this; assumption
  obtain ⟨rr, hr1, hr2⟩ := run_findKey q1 hkv (es' := es'.toList) (by simpa using hs) (fun i q x e h1 h2 => hall i q x e h1 (by simpa using h2)) q2 w
  have hck := run_checkKey q1 hkv es'.isEmpty 9999 w
  have hblt : b < w.heap.size := hR.lt b (by omega)
  have fin : ∀ (es2 : Array MapEntry), (Builtin.delete_ #[t, t2] o.type #[ρ x, ρ y]).run P w = .ok (.tuple #[]) { w with heap := w.heap.setIfInBounds b (.map es2 ck) } →
      es2.size = (delPV kp es).length → Stamps es2 ck → (∀ (i : Nat) q x e, (delPV kp es)[i]? = some (q, x) → es2[i]? = some e → VP Φ q e.key ∧ VP Φ x e.val) →
      ∃ nx v w' β' Φ' ω', (execOp ρ o).run P w = .ok nx w' ∧ (nx = .value v ∨ nx = .skip ∧ v = undef) ∧ BExt β β' ∧ β'.length = β.length ∧ Φ.le Φ' ∧ V β' Φ' (.tup []) v ∧ Rep w0 ω0 β' (setAll σ [(n, .map (delPV kp es))]) Φ' ω' w' := by
    intro es2 h1 h2 h3 h4
    obtain ⟨k1, k2⟩ := heap_setObj (o := .map es2 ck) hblt
    exact ⟨_, _, { w with heap := w.heap.setIfInBounds b (.map es2 ck) }, β, Φ, ω, hex ρ w _ _ h1, .inl rfl, BExt.refl _, rfl, Fz.le_refl _, .tup [] [] rfl (by simp),
      hR.turn hn hβ hω rfl rfl rfl (by simp) k2 ⟨b, es2, ck, rfl, hω, k1, h2, h3, h4⟩⟩
  rw [delPV_idx] at fin
  rw [delPV_idx]
  cases hi : idxPV kp es with
  | none =>
    rw [hi] at hr2
    subst hr2
    rw [hi] at fin
    simp only at fin ⊢
    refine fin es' ?_ hs hst hall
    simp only [Builtin.delete_, Sem.run_bind, run_underlying (map_of ht hk), Result.andThen_ok, hv, getObj, Sem.run, hh, Sem.run_pure, hck, hr1, setObj, List.getElem?_toArray, List.getElem?_cons_zero, List.getElem?_cons_succ]
  | some i =>
    rw [hi] at hr2
    obtain ⟨e0, he1, he2⟩ := hr2
    subst he2
    rw [hi] at fin
    simp only at fin ⊢
    have hil : i < es'.size := by
      have := (List.getElem?_eq_some_iff.1 he1).1; simpa using this
    refine fin (es'.eraseIdxIfInBounds i) ?_ ?_ ?_ ?_
    · simp only [Builtin.delete_, Sem.run_bind, run_underlying (map_of ht hk), Result.andThen_ok, hv, getObj, Sem.run, hh, Sem.run_pure, hck, hr1, setObj, List.getElem?_toArray, List.getElem?_cons_zero, List.getElem?_cons_succ]
    · have hil2 : i < es.length := by omega
      rw [Array.eraseIdxIfInBounds, dif_pos hil, Array.size_eraseIdx, List.length_eraseIdx, if_pos hil2, hs]
    · refine ⟨fun e he => ?_, ?_⟩
      · refine hst.1 e ?_
        simp [hil] at he
        exact Array.mem_toList_iff.2 (Array.mem_toList_iff.1 (List.mem_of_mem_eraseIdx (by simpa using he)))
      · have : (es'.eraseIdxIfInBounds i).toList = es'.toList.eraseIdx i := by simp [hil]
        rw [this]
        exact List.Nodup.sublist (List.Sublist.map _ (List.eraseIdx_sublist _ _)) hst.2
    · intro j q x e h1 h2
      have : (es'.eraseIdxIfInBounds i).toList = es'.toList.eraseIdx i := by simp [hil]
      rw [← Array.getElem?_toList, this, List.getElem?_eraseIdx] at h2
      rw [List.getElem?_eraseIdx] at h1
      split at h1 <;> rename_i hlt
      · rw [if_pos hlt] at h2
        exact hall j q x e h1 (by simpa using h2)
      · rw [if_neg hlt] at h2
        exact hall (j + 1) q x e h1 (by simpa using h2)

/-- a part of a row, cleared -/
def evClear (P : Program) (σ : Nat → SObj) (t : TypeId) (x : SV) : Ev :=
  match tiOf P t with
  | some ti => match ti.kind, x with
    | .slice e, .sl n sz lo hi => match σ n, tiOf P e with
      | .row T s els, some eti => .ok (s = eti.size ∧ sz = s ∧ hi ≤ els.length ∧ 0 < eti.size ∧ eti.zero.length = eti.size ∧ eti.zero.all PV.one = true) [(n, .row T s els)] (.tup [])
          [(n, .row T s (els.take lo ++ List.replicate (hi - lo) eti.zero ++ els.drop hi))]
      | _, _ => .bad
    | _, _ => .bad
  | none => .bad

theorem zeroCells_get {z : Array Value} {n : Nat} : ∀ k u, (Builtin.zeroCells z n)[k]? = some u → z[k % z.size]? = some u := by
  intro k u h
  unfold Builtin.zeroCells at h
  have hk := (Array.getElem?_eq_some_iff.1 h).1
  rw [Array.size_map, Array.size_range] at hk
  rw [Array.getElem?_map, Array.getElem?_range, if_pos hk] at h
  have hz : 0 < z.size := by
    rcases Nat.eq_zero_or_pos z.size with h0 | h0
    · rw [h0, Nat.mul_zero] at hk; omega
    · exact h0
  have hm : k % z.size < z.size := Nat.mod_lt _ hz
  simp only [Option.map_some, Option.some.injEq] at h
  rw [Array.getElem?_eq_getElem hm, ← h]
  simp [hm]

theorem op_clear {P : Program} {o : Oper} {g : Operand → SV} {t : TypeId} {x : Operand} (ho : o.op = .call { callee := .builtin .clear, args := #[x], argTypes := #[t] }) {σf : Nat → SObj} {ob : Prop} {rd : List (Nat × SObj)} {r : SV} {wr : List (Nat × SObj)}
    (he : evClear P σf t (g x) = .ok ob rd r wr) (hob : ob) : OpR P o g rd r wr := by
  have hex : ∀ (ρ : Operand → Value) (w w' : World) (v : Value), (Builtin.clear_ #[t] o.type #[ρ x]).run P w = .ok v w' → (execOp ρ o).run P w = .ok (.value v) w' := by
    intro ρ w w' v h
    simp [execOp, ho, resolve, invoke, builtin, h]
  unfold evClear at he
  split at he <;> try cases he
  rename_i ti ht
  split at he <;> try cases he
  rename_i e n sz lo top hk hx
  have hu := slice_of ht hk
  split at he <;> cases he
  rename_i T s els eti hσ het
  obtain ⟨rfl, rfl, q1, q2, q3, q4⟩ := hob
  obtain ⟨i, d, z, hi1, hi2, hi3, hi4, hi5, hi6, hi7, hi8⟩ := tiOf_inv het
  intro w0 ω0 β Φ ω σ w ρ hR hg hrd
  have hn := hrd n (.row T eti.size els) (by simp)
  obtain ⟨v, hβ, hO⟩ := hR.at_ hn
  obtain ⟨a, a', l, c, hβ', hv, p1, p2, p3⟩ := (hx ▸ hg x : V β Φ (.sl n eti.size lo top) (ρ x)).inv_sl
  rw [hβ] at hβ'
  obtain rfl := Option.some.inj hβ'
  have hzl : z.cells.size = eti.size := by have := (pvs_ok (Φ := Φ) hi4).1; simp at this; omega
  by_cases h0 : top - lo = 0
  · have htl : top = lo := by omega
    subst htl
    have hsame : σ.set n (.row T eti.size (els.take top ++ List.replicate (top - top) eti.zero ++ els.drop top)) = σ := by
      rw [Nat.sub_self, List.replicate_zero, List.append_nil, List.take_append_drop]
      obtain ⟨hlt, he⟩ := List.getElem?_eq_some_iff.1 hn
      rw [← he]; exact List.set_getElem_self hlt
    refine ⟨_, .tuple #[], w, β, Φ, ω, hex ρ w w _ ?_, .inl rfl, BExt.refl _, rfl, Fz.le_refl _, .tup [] [] rfl (by simp), ?_⟩
    · rw [hv, h0]
      simp [Builtin.clear_, run_underlying hu]
    · simp only [setAll]
      rw [hsame]; exact hR
  · rcases hO with ⟨ax, hvv, rfl⟩ | ⟨b, cap, cs, hvv, hω, hh, hcs, hcl, hm, hse, hj⟩
    · simp only [List.length_nil] at q1; omega
    cases hvv
    have hlt : lo < c := by omega
    obtain rfl := p3 hlt
    have ea : (⟨b, 0, none⟩ : Addr).add (lo * eti.size) = ⟨b, lo * eti.size, none⟩ := by rw [Addr.add_lit, Nat.zero_add]
    rw [ea] at hv
    let news : List Value := (Builtin.zeroCells z.cells (top - lo)).toList
    have hnl : news.length = (top - lo) * eti.size := by
      show (Builtin.zeroCells z.cells (top - lo)).toList.length = _
      rw [Array.length_toList, size_zeroCells, hzl]
    have hlm : lo * eti.size + (top - lo) * eti.size = top * eti.size := by rw [← Nat.add_mul]; congr 1; omega
    have htm : top * eti.size ≤ c * eti.size := Nat.mul_le_mul_right _ (by omega)
    have hz : ∀ k u, news[k]? = some u → z.cells[k % eti.size]? = some u := fun k u h => by
      have := zeroCells_get k u (by rw [← Array.getElem?_toList]; exact h)
      rwa [hzl] at this
    have hzv : ∀ (k : Nat) p u, eti.zero[k]? = some p → z.cells[k]? = some u → VP Φ p u := fun k p u h1 h2 => (pvs_ok hi4).2 k p u h1 (by rw [Array.getElem?_toList]; exact h2)
    have hone : ∀ u ∈ news, u.oneCell' = true := by
      intro u hu
      obtain ⟨k, hk⟩ := List.getElem?_of_mem hu
      have h2 := hz k u hk
      have hkl : k % eti.size < eti.zero.length := by rw [q3]; exact Nat.mod_lt _ q2
      have h1 : eti.zero[k % eti.size]? = some eti.zero[k % eti.size] := List.getElem?_eq_getElem hkl
      exact (hzv _ _ _ h1 h2).one (List.all_eq_true.1 q4 _ (List.getElem_mem hkl))
    have hst := run_storeCells_at (P := P) b (lo * eti.size) T news 0 cs w hh (by rw [Nat.add_zero, hnl, hlm, hcs]; exact htm) hone
    have hlen2 : (els.take lo ++ List.replicate (top - lo) eti.zero ++ els.drop top).length = els.length := by simp; omega
    refine ⟨_, .tuple #[], _, β, Φ, ω, hex ρ w (w.setRow b (cs.toList.take (lo * eti.size + 0) ++ news ++ cs.toList.drop (lo * eti.size + 0 + news.length)).toArray) _ ?_, .inl rfl, BExt.refl _, rfl, Fz.le_refl _, .tup [] [] rfl (by simp), ?_⟩
    · rw [hv]
      obtain ⟨k, hk'⟩ : ∃ k, top - lo = k + 1 := ⟨top - lo - 1, by omega⟩
      have hzero : (zeroValue e).run P w = .ok z w := by simp [zeroValue, typeInfo, hi1, hi3]
      have hst' : (storeCells ⟨b, lo * eti.size, none⟩ (Builtin.zeroCells z.cells (k + 1)).toList).run P w = .ok () (w.setRow b (cs.toList.take (lo * eti.size + 0) ++ news ++ cs.toList.drop (lo * eti.size + 0 + news.length)).toArray) := by
        rw [← hk']
        simp only [Nat.add_zero] at hst ⊢
        exact hst
      rw [hk']
      simp [Builtin.clear_, run_underlying hu, hzero, hst']
    · simp only [setAll]
      refine hR.turn hn hβ hω rfl rfl rfl (by simp) (fun k hk => setRow_other w b k _ hk) ?_
      refine .inr ⟨b, c, _, by rw [hlen2], hω, setRow_heap w b cs _ T (0, 0) hh, ?_, by rw [hlen2]; exact hcl, hm, fun x hx => ?_, fun i' x j p u h1 h2 h3 => ?_⟩
      · simp only [List.size_toArray, List.length_append, List.length_take, List.length_drop, Array.length_toList]; omega
      · rcases List.mem_append.1 hx with h | h
        · rcases List.mem_append.1 h with h | h
          · exact hse x (List.mem_of_mem_take h)
          · rw [List.eq_of_mem_replicate h]; exact q3
        · exact hse x (List.mem_of_mem_drop h)
      · have hjl := (List.getElem?_eq_some_iff.1 h2).1
        have hil := (List.getElem?_eq_some_iff.1 h1).1
        have hxs : x.length = eti.size := by
          rcases List.mem_append.1 (List.mem_of_getElem? h1) with h | h
          · rcases List.mem_append.1 h with h | h
            · exact hse x (List.mem_of_mem_take h)
            · rw [List.eq_of_mem_replicate h]; exact q3
          · exact hse x (List.mem_of_mem_drop h)
        rw [hxs] at hjl
        have htl : (els.take lo).length = lo := by simp; omega
        have hcut : (cs.toList.take (lo * eti.size + 0)).length = lo * eti.size := by
          have := Nat.mul_le_mul_right eti.size (show lo ≤ c by omega)
          simp; rw [hcs]; omega
        have h3' : (cs.toList.take (lo * eti.size + 0) ++ news ++ cs.toList.drop (lo * eti.size + 0 + news.length))[i' * eti.size + j]? = some u := by simpa using h3
        by_cases hc1 : i' < lo
        · have hm1 := mul_lt_of hc1 hjl
          rw [List.append_assoc, List.getElem?_append_left (by omega)] at h1
          rw [List.getElem?_take, if_pos hc1] at h1
          rw [List.append_assoc, List.getElem?_append_left (by omega), List.getElem?_take, if_pos (by omega)] at h3'
          exact hj i' x j p u h1 h2 (by simpa using h3')
        · by_cases hc2 : i' < top
          · have hm2 := mul_lt_of (show i' - lo < top - lo by omega) hjl
            have e1 : i' * eti.size = lo * eti.size + (i' - lo) * eti.size := by rw [← Nat.add_mul]; congr 1; omega
            rw [List.append_assoc, List.getElem?_append_right (by omega), List.getElem?_append_left (by simp; omega), htl] at h1
            rw [List.append_assoc, List.getElem?_append_right (by omega), List.getElem?_append_left (by omega), hcut] at h3'
            have hx := List.eq_of_mem_replicate (List.mem_of_getElem? h1)
            subst hx
            refine hzv j p u h2 ?_
            have := hz _ _ h3'
            rw [show i' * eti.size + j - lo * eti.size = j + eti.size * (i' - lo) by rw [Nat.mul_comm eti.size]; omega, Nat.add_mul_mod_self_left, Nat.mod_eq_of_lt hjl] at this
            exact this
          · have e1 : i' * eti.size = top * eti.size + (i' - top) * eti.size := by rw [← Nat.add_mul]; congr 1; omega
            have hl1 : (els.take lo ++ List.replicate (top - lo) eti.zero).length = top := by rw [List.length_append, htl, List.length_replicate]; omega
            rw [List.getElem?_append_right (by omega), hl1, List.getElem?_drop] at h1
            rw [List.getElem?_append_right (by rw [List.length_append, hcut, hnl]; omega), List.length_append, hcut, List.getElem?_drop] at h3'
            refine hj i' x j p u ?_ h2 ?_
            · rw [← h1]; congr 1; omega
            · rw [← Array.getElem?_toList, ← h3']; congr 1; omega

/-! ### a row that is handed to a map is never written again -/
theorem Rep.frz0 {w0 : World} {ω0 : Nat → Nat} {β : List Value} {σ : List SObj} {Φ : Fz} {ω : Nat → Nat} {w : World} (h : Rep w0 ω0 β σ Φ ω w) {n : Nat} {T : TypeId} {sz : Nat} {els : List (List PV)} (hσ : σ[n]? = some (.row T sz els)) :
    ∃ Φ' ω' v, Φ.le Φ' ∧ β[n]? = some v ∧ VP Φ' (.fz els none) v ∧ Rep w0 ω0 β (σ.set n .dead) Φ' ω' w := by
  obtain ⟨v, hv, hO⟩ := h.at_ hσ
  rcases hO with ⟨ad, rfl, rfl⟩ | ⟨b, cap, cs, rfl, hw, hc, hs', hl, hm, he, hj⟩
  · refine ⟨Φ, ω, _, Fz.le_refl _, hv, .fz 0 [] none ad 0 (fun _ _ => .bool false) (by simp) (by simp) (Nat.zero_le _) (by simp) (by simp) (by simp) (by simp), h.os, h.tape, h.output, h.size, h.frame, h.fz, h.lt, by simp [h.len], fun m ob u hm hu => ?_, h.gl⟩
    by_cases e : m = n
    · subst e
      rw [List.getElem?_set_self (List.getElem?_eq_some_iff.1 hσ).1] at hm
      cases hm; trivial
    · rw [List.getElem?_set_ne (fun h => e h.symm)] at hm
      exact h.obj m ob u hm hu
  · have hΦb : Φ b = none := by
      cases hb : Φ b with
      | none => rfl
      | some o => have := (h.fz b o hb).1; omega
    let Φ' : Fz := fun x => if x = b then some (.cells cs T (0, 0)) else Φ x
    let ω' : Nat → Nat := fun x => if x = b then 1 else ω x
    have hle : Φ.le Φ' := fun x o hx => by
      have : x ≠ b := by intro h; subst h; rw [hΦb] at hx; cases hx
      simp only [Φ', if_neg this]; exact hx
    refine ⟨Φ', ω', _, hle, hv, .fz sz els none (some ⟨b, 0, none⟩) cap (fun i j => (cs[i * sz + j]?).getD (.bool false)) he hl hm (by simp) (fun _ => rfl) (fun i e j x ad hi hj' had => ?_) (fun i e j x hi hj' => ?_),
      h.os, h.tape, h.output, h.size, fun x hx h0 => ?_, fun x o hx => ?_, fun x hx => ?_, by simp [h.len], fun m ob u hm hu => ?_, h.gl.mono hle⟩
    · cases had
      have hin : i * sz + j < cs.size := by
        rw [hs']
        have hil := (List.getElem?_eq_some_iff.1 hi).1
        have hjl := (List.getElem?_eq_some_iff.1 hj').1
        have := he e (List.mem_of_getElem? hi)
        exact mul_lt_of (Nat.lt_of_lt_of_le hil hl) (by omega)
      rw [Addr.add_lit, Nat.zero_add]
      simp [Fz.cell, Φ', hin]
    · have hin : i * sz + j < cs.size := by
        rw [hs']
        have hil := (List.getElem?_eq_some_iff.1 hi).1
        have hjl := (List.getElem?_eq_some_iff.1 hj').1
        have := he e (List.mem_of_getElem? hi)
        exact mul_lt_of (Nat.lt_of_lt_of_le hil hl) (by omega)
      have hcj : cs[i * sz + j]? = some cs[i * sz + j] := Array.getElem?_eq_getElem hin
      simp only [hcj, Option.getD_some]
      exact (hj i e j x _ hi hj' hcj).mono hle
    · obtain ⟨k1, k2⟩ := h.frame x hx h0
      have : x ≠ b := by intro h; subst h; omega
      exact ⟨k1, by simp only [ω', if_neg this]; exact k2⟩
    · by_cases hxb : x = b
      · subst hxb
        simp only [Φ', ω', if_true] at hx ⊢
        cases hx; exact ⟨trivial, hc⟩
      · simp only [Φ', ω', if_neg hxb] at hx ⊢; exact h.fz x o hx
    · by_cases hxb : x = b
      · subst hxb; exact h.lt x (by omega)
      · simp only [ω', if_neg hxb] at hx; exact h.lt x hx
    · by_cases e : m = n
      · subst e
        rw [List.getElem?_set_self (List.getElem?_eq_some_iff.1 hσ).1] at hm
        cases hm; trivial
      · rw [List.getElem?_set_ne (fun h => e h.symm)] at hm
        refine (h.obj m ob u hm hu).mono (BExt.refl _) hle fun x hx => ⟨?_, rfl⟩
        have : x ≠ b := by intro h; subst h; omega
        simp only [ω', if_neg this]; exact hx

def evMapUpdateF (P : Program) (σ : Nat → SObj) (t : TypeId) (m k x : SV) : Ev :=
  match x with
  | .h q => match σ q with
    | .row T sz els => match evMapUpdate P σ t m k (.u (.fz els none)) with
      | .ok ob rd r wr => .ok ob ((q, .row T sz els) :: rd) r ((q, .dead) :: wr)
      | .bad => .bad
    | _ => .bad
  | x => evMapUpdate P σ t m k x

theorem evMapUpdate_rd {P : Program} {σ : Nat → SObj} {t : TypeId} {m k x : SV} {ob : Prop} {rd : List (Nat × SObj)} {r : SV} {wr : List (Nat × SObj)} (he : evMapUpdate P σ t m k x = .ok ob rd r wr) : ∃ n es, rd = [(n, .map es)] := by
  unfold evMapUpdate at he
  split at he <;> try cases he
  split at he <;> try cases he
  split at he <;> try cases he
  split at he <;> cases he
  exact ⟨_, _, rfl⟩

open Classical in
theorem op_mapUpdateF {P : Program} {o : Oper} {g : Operand → SV} {t : TypeId} {x y z : Operand} (ho : o.op = .mapUpdate t x y z ∨ o.op = .insert t x y z) {σf : Nat → SObj} {ob : Prop} {rd : List (Nat × SObj)} {r : SV} {wr : List (Nat × SObj)}
    (he : evMapUpdateF P σf t (g x) (g y) (g z) = .ok ob rd r wr) (hob : ob) : OpR P o g rd r wr := by
  unfold evMapUpdateF at he
  split at he
  · rename_i q hz
    split at he <;> try cases he
    rename_i T sz els hq
    split at he <;> cases he
    rename_i rd' wr' hev
    let g' : Operand → SV := fun u => if u = z then .u (.fz els none) else g u
    have hev' : evMapUpdate P σf t (g' x) (g' y) (g' z) = .ok ob rd' r wr' := by
      have h1 : g' z = .u (.fz els none) := by simp [g']
      have h2 : y ≠ z := by
        rintro rfl
        rw [hz] at hev
        unfold evMapUpdate at hev
        split at hev <;> simp_all
      have h3 : g' y = g y := by simp [g', h2]
      have h4 : g' x = g x := by
        by_cases hx : x = z
        · subst hx
          rw [hz] at hev
          unfold evMapUpdate at hev
          split at hev <;> try cases hev
          split at hev <;> try cases hev
          simp only [hq] at hev
          cases hev
        · simp [g', hx]
      rw [h1, h3, h4]; exact hev
    have hop := op_mapUpdate ho hev' hob
    obtain ⟨n, es, rfl⟩ := evMapUpdate_rd hev
    intro w0 ω0 β Φ ω σ w ρ hR hg hrd
    have hσ := hrd q (.row T sz els) (by simp)
    have hn := hrd n (.map es) (by simp)
    have hnq : n ≠ q := by intro h; subst h; rw [hn] at hσ; cases hσ
    obtain ⟨Φ', ω', v, hle, hv, hvp, hR'⟩ := hR.frz0 hσ
    have hz' := ((hz ▸ hg z : V β Φ (.h q) (ρ z)).inv_h).1
    rw [hv] at hz'
    have hz' := Option.some.inj hz'
    obtain ⟨nx, u, w', β', Φ'', ω'', a1, a2, a3, a4, a5, a6, a7⟩ := hop w0 ω0 β Φ' ω' (σ.set q .dead) w ρ hR' (fun u => by
      simp only [g']
      by_cases hu : u = z
      · subst hu; rw [if_pos rfl, ← hz']; exact .u _ _ hvp
      · rw [if_neg hu]; exact (hg u).mono (BExt.refl _) hle) (fun m ob' hm => by
      simp only [List.mem_cons, List.not_mem_nil, or_false, Prod.mk.injEq] at hm
      obtain ⟨rfl, rfl⟩ := hm
      rw [List.getElem?_set_ne (fun h => hnq h.symm)]; exact hn)
    exact ⟨nx, u, w', β', Φ'', ω'', a1, a2, a3, a4, Fz.le_trans hle a5, a6, a7⟩
  · exact op_mapUpdate ho he hob

/-! ### iteration over a map -/
def evRange (P : Program) (σ : Nat → SObj) (N : Nat) (t : TypeId) (m : SV) : Ev :=
  match tiOf P t with
  | some ti => match ti.kind with
    | .map _ _ => match m with
      | .h n => match σ n with
        | .map es => .ok True [(n, .map es), (N, .unborn)] (.h N) [(n, .dead), (N, .iter n es es none)]
        | _ => .bad
      | _ => .bad
    | _ => .bad
  | none => .bad

theorem op_range {P : Program} {o : Oper} {g : Operand → SV} {t : TypeId} {x : Operand} (ho : o.op = .range t x) {σf : Nat → SObj} {N : Nat} {ob : Prop} {rd : List (Nat × SObj)} {r : SV} {wr : List (Nat × SObj)}
    (he : evRange P σf N t (g x) = .ok ob rd r wr) : OpR P o g rd r wr := by
  unfold evRange at he
  split at he <;> try cases he
  rename_i ti ht
  split at he <;> try cases he
  rename_i kt et hk
  split at he <;> try cases he
  rename_i n hx
  split at he <;> cases he
  rename_i es hσ
  intro w0 ω0 β Φ ω σ w ρ hR hg hrd
  have hn := hrd n (.map es) (by simp)
  have hN := hrd N .unborn (by simp)
  have hnN : n ≠ N := by intro h; subst h; rw [hn] at hN; cases hN
  obtain ⟨v, hβ, b, es', ck, rfl, hω, hh, hs, hst, hall⟩ := hR.at_ hn
  have hv := ((hx ▸ hg x : V β Φ (.h n) (ρ x)).inv_h).1
  rw [hβ] at hv
  have hv := (Option.some.inj hv).symm
  have hblt : b < w.heap.size := hR.lt b (by omega)
  have hNl : N < σ.length := (List.getElem?_eq_some_iff.1 hN).1
  have hNβ : N < β.length := by rw [hR.len]; exact hNl
  have hub := hR.unborn hN
  let vN : Value := .pointer (some ⟨w.heap.size, 0, none⟩)
  have hext : BExt β (β.set N vN) := by
    intro m u hm hr
    by_cases e : m = N
    · subst e; rw [hub] at hm; cases hm; simp [isRef] at hr
    · rw [List.getElem?_set_ne (fun h => e h.symm)]; exact hm
  let ω' : Nat → Nat := fun c => if c = w.heap.size then N + 2 else if c = b then N + 2 else ω c
  have hold : ∀ (o' : Obj) c, c < w.heap.size → (w.alloc o').heap[c]? = w.heap[c]? := fun o' c hc => Go.RowKit.Below.heap_alloc w o' c hc
  have hents : EntsR Φ es es'.toList := ⟨by simpa using hs, fun i k x e h1 h2 => hall i k x e h1 (by simpa using h2)⟩
  refine ⟨.value vN, vN, w.alloc (.mapIter (some b) ck #[] ck), β.set N vN, Φ, ω', ?_, .inl rfl, hext, by simp, Fz.le_refl _, .h N _ (List.getElem?_set_self hNβ) rfl, hR.os, hR.tape, hR.output, ?_, fun c hc h0 => ?_, fun c o' hc => ?_, fun c hc => ?_, by simp [setAll, hR.len], fun m ob u hm hu => ?_, hR.gl⟩
  · simp only [execOp, ho, Instr.range, Sem.run_bind, run_underlying (map_of ht hk), Result.andThen_ok, hv, getObj, Sem.run, hh, Sem.run_pure, run_newObj]
    rfl
  · exact Nat.le_trans hR.size (by simp)
  · obtain ⟨h1, h2⟩ := hR.frame c hc h0
    have hc1 : c < w.heap.size := Nat.lt_of_lt_of_le hc hR.size
    have hcb : c ≠ b := by intro h; subst h; omega
    refine ⟨(hold _ c hc1).trans h1, ?_⟩
    simp only [ω', if_neg (show c ≠ w.heap.size by omega), if_neg hcb]; exact h2
  · obtain ⟨h1, h2⟩ := hR.fz c o' hc
    have hc1 := hR.lt c (by omega)
    have hcb : c ≠ b := by intro h; subst h; omega
    refine ⟨?_, (hold _ c hc1).trans h2⟩
    simp only [ω', if_neg (show c ≠ w.heap.size by omega), if_neg hcb]; exact h1
  · by_cases e1 : c = w.heap.size
    · subst e1; simp
    · simp only [ω', if_neg e1] at hc
      by_cases e2 : c = b
      · subst e2; simp; omega
      · simp only [if_neg e2] at hc
        have := hR.lt c hc
        simp; omega
  · simp only [setAll] at hm
    by_cases e1 : m = N
    · subst e1
      rw [List.getElem?_set_self (by simpa using hNl)] at hm
      rw [List.getElem?_set_self hNβ] at hu
      cases hm; cases hu
      refine ⟨w.heap.size, b, es', ck, #[], rfl, by simp [ω'], heap_alloc_new w _, by rw [List.getElem?_set_ne (fun h => hnN h.symm)]; exact hβ, by simp [ω'], (hold _ b hblt).trans hh, hst, hents, ?_, fun k x hk => by cases hk⟩
      have : notSeen #[] es'.toList = es'.toList := by simp [notSeen]
      rw [this]; exact hents
    · rw [List.getElem?_set_ne (fun h => e1 h.symm)] at hm hu
      by_cases e2 : m = n
      · subst e2
        rw [List.getElem?_set_self (List.getElem?_eq_some_iff.1 hn).1] at hm
        cases hm; trivial
      · rw [List.getElem?_set_ne (fun h => e2 h.symm)] at hm
        refine (hR.obj m ob u hm hu).mono hext (Fz.le_refl _) fun c hc => ?_
        have hc1 := hR.lt c (by omega)
        have hcb : c ≠ b := by intro h; subst h; omega
        refine ⟨?_, hold _ c hc1⟩
        simp only [ω', if_neg (show c ≠ w.heap.size by omega), if_neg hcb]; exact hc

def evEntry (σ : Nat → SObj) (x : SV) : Ev :=
  match x with
  | .h n => match σ n with
    | .iter m es left (some (k, v)) => .ok True [(n, .iter m es left (some (k, v)))] (.tup [.u k, .u v]) []
    | _ => .bad
  | _ => .bad

theorem op_entry {P : Program} {o : Oper} {g : Operand → SV} {x : Operand} (ho : o.op = .entry x) {σf : Nat → SObj} {ob : Prop} {rd : List (Nat × SObj)} {r : SV} {wr : List (Nat × SObj)}
    (he : evEntry σf (g x) = .ok ob rd r wr) : OpR P o g rd r wr := by
  unfold evEntry at he
  split at he <;> try cases he
  rename_i n hx
  split at he <;> cases he
  rename_i m es left k v hσ
  refine OpR.read fun w0 ω0 β Φ ω σ w ρ hR hg hrd => ?_
  obtain ⟨u, hβ, r, bm, es', ck, seen, rfl, hw, hc, hm, hwm, hcm, hst, h1, h2, h3⟩ := hR.at_ (hrd n (.iter m es left (some (k, v))) (by simp))
  have hv := ((hx ▸ hg x : V β Φ (.h n) (ρ x)).inv_h).1
  rw [hβ] at hv
  have hv := (Option.some.inj hv).symm
  obtain ⟨s0, e, rfl, he, hk, hx'⟩ := h3 k v rfl
  have hrun := run_entry_at (P := P) w r bm ck s0 es' ck e hc hcm he hst.2
  refine ⟨.tuple #[e.key, e.val], by simp only [execOp, ho, hv, Sem.run_bind, hrun, Result.andThen_ok, Sem.run_pure], ?_⟩
  refine .tup _ [e.key, e.val] rfl fun j y v hy hv => ?_
  match j with
  | 0 => simp at hy hv; subst hy hv; exact .u _ _ hk
  | 1 => simp at hy hv; subst hy hv; exact .u _ _ hx'
  | j + 2 => simp at hy

def evOp (P : Program) (σ : Nat → SObj) (N : Nat) (o : Oper) (g : Operand → SV) : Ev :=
  match o.op with
  | .move x => .ok True [] (g x) []
  | .assign x => .ok True [] (g x) []
  | .pick c a b => match g c with
    | .u (.b t) => evPick t (g a) (g b)
    | _ => .bad
  | .alloc t => match tiOf P t with
    | some ti => .ok True [(N, .unborn)] (.p N 0) [(N, .cells (ti.zero.map .u))]
    | none => .bad
  | .box _ x => .ok ((g x).cells.all SV.one = true) [(N, .unborn)] (.p N 0) [(N, .cells (g x).cells)]
  | .build t parts => evBuild P t (parts.toList.map fun p => (p.1, g p.2))
  | .buildSlice t n parts => evBuildSlice P t n (parts.toList.map fun p => (p.1, g p.2))
  | .load t x => match tiOf P t with
    | some ti => match evLoad σ ti (g x) with
      | .ok ob rd r wr => .ok (ob ∧ 0 < ti.size) rd r wr
      | .bad => .bad
    | none => .bad
  | .store t x y => match tiOf P t with
    | some ti => evStore σ ti (g x) (g y)
    | none => .bad
  | .nilCheck x => evNil (g x)
  | .binOp op t x y _ => evBin P t op (g x) (g y)
  | .unOp .not _ x => match g x with
    | .u (.b b) => .ok True [] (.u (.b (!b))) []
    | _ => .bad
  | .unOp .xor _ x => evXor (g x)
  | .makeSlice t l c => evMakeSlice P N t (g l) (g c)
  | .convert s d x => evConvert P σ s d (g x)
  | .makeFunc fn f c => match evFunc fn (f.toList.map g) (c.toList.map g) with
    | some r => .ok True [] r []
    | none => .bad
  | .makeMap _ none => .ok True [(N, .unborn)] (.h N) [(N, .map [])]
  | .slice t x lo hi mx => evSlice P σ t (g x) (lo.map g) (hi.map g) (mx.map g)
  | .fieldAddr t x f => evFieldAddr P t f (g x)
  | .field t x f => evField P t f (g x)
  | .indexAddr t x i => evIndexAddr P σ t (g x) (g i)
  | .index t x i => evIndex P t (g x) (g i)
  | .lookup t m k ok => evLookup P σ t (g m) (g k) ok
  | .mapUpdate t m k x => evMapUpdateF P σ t (g m) (g k) (g x)
  | .insert t m k x => evMapUpdateF P σ t (g m) (g k) (g x)
  | .extract x i => match (g x).tupAt i with
    | some r => .ok True [] r []
    | none => .bad
  | .range t x => evRange P σ N t (g x)
  | .entry x => evEntry σ (g x)
  | .call c => match c.callee, c.args.toList, c.argTypes.toList with
    | .builtin .len, [x], [t] => evLen P σ t (g x)
    | .builtin .append, [x, y], [t, t2] => evAppend P σ N t t2 (g x) (g y)
    | .builtin .max, [x, y], _ => evMax (g x) (g y)
    | .builtin .min, [x, y], _ => evMin (g x) (g y)
    | .builtin .clear, [x], [t] => evClear P σ t (g x)
    | .builtin .delete, [x, y], [t, _] => evDelete P σ t (g x) (g y)
    | _, _, _ => .bad
  | _ => .bad

theorem op_pick {P : Program} {o : Oper} {g : Operand → SV} {c x y : Operand} {t : Bool} (ho : o.op = .pick c x y) (hc : g c = .u (.b t)) {ob : Prop} {rd : List (Nat × SObj)} {r : SV} {wr : List (Nat × SObj)}
    (he : evPick t (g x) (g y) = .ok ob rd r wr) (hob : ob) : OpR P o g rd r wr := by
  have key : ∀ r', (∀ β Φ u v, V β Φ (g x) u → V β Φ (g y) v → V β Φ r' (if t then u else v)) → OpR P o g [] r' [] := by
    intro r' hr
    refine OpR.pure fun β Φ ρ w hg => ⟨if t then ρ x else ρ y, ?_, hr β Φ _ _ (hg x) (hg y)⟩
    have hv := (hc ▸ hg c : V β Φ (.u (.b t)) (ρ c)).inv_b
    simp only [execOp, ho, hv, asBool, Sem.run_bind, Sem.run_pure, Result.andThen_ok]
  unfold evPick at he
  split at he <;> cases he
  · rename_i p q e1 e2
    refine key _ fun β Φ u v hu hv => ?_
    rw [e1] at hu; rw [e2] at hv
    rw [hu.inv_b, hv.inv_b]
    cases t <;> exact V.mk_b _
  · rename_i p k d q e1 e2
    refine key _ fun β Φ u v hu hv => ?_
    rw [e1] at hu; rw [e2] at hv
    rw [hu.inv_b]
    cases t with
    | true => exact V.mk_b _
    | false =>
      cases hv with | gd _ _ _ _ hv _ =>
      rw [(hv (hob rfl)).inv_b]
      exact V.mk_b _
  · rename_i k d p q e1 e2
    refine key _ fun β Φ u v hu hv => ?_
    rw [e1] at hu; rw [e2] at hv
    rw [hv.inv_b]
    cases t with
    | false => exact V.mk_b _
    | true =>
      cases hu with | gd _ _ _ _ hu _ =>
      rw [(hu (hob rfl)).inv_b]
      exact V.mk_b _
  · refine key _ fun β Φ u v hu hv => ?_
    cases t
    · exact hv
    · exact hu

theorem evOp_ok {P : Program} {o : Oper} {g : Operand → SV} {σf : Nat → SObj} {N : Nat} {ob : Prop} {rd : List (Nat × SObj)} {r : SV} {wr : List (Nat × SObj)} (he : evOp P σf N o g = .ok ob rd r wr) (hob : ob) : OpR P o g rd r wr := by
  unfold evOp at he
  split at he
  · rename_i x ho; cases he; exact op_move (.inl ho)
  · rename_i x ho; cases he; exact op_move (.inr ho)
  · rename_i c x y ho
    split at he <;> try cases he
    rename_i t hc
    exact op_pick ho hc he hob
  · rename_i t ho
    split at he <;> cases he
    rename_i ti ht
    exact op_alloc ho ht N
  · rename_i t x ho; cases he; exact op_box ho N hob
  · rename_i t parts ho; exact op_build ho he
  · rename_i t n parts ho; exact op_buildSlice ho he hob
  · rename_i t x ho
    split at he <;> try cases he
    rename_i ti ht
    split at he <;> cases he
    rename_i ob' hl
    exact op_load ho ht hl hob.1 hob.2
  · rename_i t x y ho
    split at he <;> try cases he
    rename_i ti ht
    exact op_store ho ht he hob
  · rename_i x ho; exact op_nilCheck ho he
  · rename_i op t x y t' ho; exact op_bin ho he hob
  · rename_i t x ho
    split at he <;> cases he
    rename_i b hx
    exact op_not ho hx
  · rename_i t x ho; exact op_xor ho he
  · rename_i t l c ho; exact op_makeSlice ho he hob
  · rename_i s d x ho; exact op_convert ho he hob
  · rename_i fn f c ho
    split at he <;> cases he
    rename_i hr
    exact op_makeFunc ho hr
  · rename_i t ho; cases he; exact op_makeMap ho N
  · rename_i t x lo hi mx ho; exact op_slice ho he hob
  · rename_i t x f ho; exact op_fieldAddr ho he hob
  · rename_i t x f ho; exact op_field ho he hob
  · rename_i t x i ho; exact op_indexAddr ho he hob
  · rename_i t x i ho; exact op_index ho he hob
  · rename_i t m k ok ho; exact op_lookup ho he hob
  · rename_i t m k x ho; exact op_mapUpdateF (.inl ho) he hob
  · rename_i t m k x ho; exact op_mapUpdateF (.inr ho) he hob
  · rename_i x i ho
    split at he <;> cases he
    rename_i hr
    exact op_extract ho hr
  · rename_i t x ho; exact op_range ho he
  · rename_i x ho; exact op_entry ho he
  · rename_i c ho
    obtain ⟨callee, args, argTypes⟩ := c
    simp only at he
    split at he <;> try cases he
    · rename_i x t h2 h3
      have e1 : args = #[x] := by apply Array.ext'; simpa using h2
      have e2 : argTypes = #[t] := by apply Array.ext'; simpa using h3
      subst e1 e2
      exact op_len ho he
    · rename_i x y t t2 h2 h3
      have e1 : args = #[x, y] := by apply Array.ext'; simpa using h2
      have e2 : argTypes = #[t, t2] := by apply Array.ext'; simpa using h3
      subst e1 e2
      exact op_append ho he hob
    · rename_i x y h2
      have e1 : args = #[x, y] := by apply Array.ext'; simpa using h2
      subst e1
      exact op_max ho he
    · rename_i x y h2
      have e1 : args = #[x, y] := by apply Array.ext'; simpa using h2
      subst e1
      exact op_min ho he
    · rename_i x t h2 h3
      have e1 : args = #[x] := by apply Array.ext'; simpa using h2
      have e2 : argTypes = #[t] := by apply Array.ext'; simpa using h3
      subst e1 e2
      exact op_clear ho he hob
    · rename_i x y t t2 h2 h3
      have e1 : args = #[x, y] := by apply Array.ext'; simpa using h2
      have e2 : argTypes = #[t, t2] := by apply Array.ext'; simpa using h3
      subst e1 e2
      exact op_delete ho he hob
  · cases he

/-! ### states -/
structure Cx where
  w0 : World
  ω0 : Nat → Nat
  β0 : List Value
  Φ0 : Fz
  nt : Nat

def St (c : Cx) (e : Env) (σ : List SObj) (a : Act) (w : World) : Prop :=
  ∃ β Φ ω, BExt c.β0 β ∧ c.Φ0.le Φ ∧ a.defers = [] ∧ a.tmps.size = c.nt ∧ EnvOK β Φ e a.tmps ∧ Rep c.w0 c.ω0 β σ Φ ω w

theorem size_put (a : Act) (d : Option Tmp) (v : Value) : (a.put d v).tmps.size = a.tmps.size := by cases d <;> simp [Act.put]
theorem defers_put (a : Act) (d : Option Tmp) (v : Value) : (a.put d v).defers = a.defers := by cases d <;> rfl

/-! ### calls -/
def enterable (P : Program) (f : FuncId) : Bool :=
  match P.funcs[f]? with
  | some fn => fn.name != "runtime.NumGoroutine" && fn.body.isSome
  | none => false

/-- in memory σ the call answers so -/
def CallT (P : Program) (f : FuncId) (args : List SV) (σ : List SObj) (K : SV → List SObj → Prop) : Prop :=
  ∀ (w0 : World) (ω0 : Nat → Nat) (β : List Value) (Φ : Fz) (ω : Nat → Nat) (w : World) (vs : List Value), Rep w0 ω0 β σ Φ ω w → vs.length = args.length →
    (∀ (j : Nat) x v, args[j]? = some x → vs[j]? = some v → V β Φ x v) →
    Calls P f vs.toArray w fun e w' => ∃ r v β' σ' Φ' ω', e = .returned v ∧ BExt β β' ∧ Φ.le Φ' ∧ V β' Φ' r v ∧ Rep w0 ω0 β' σ' Φ' ω' w' ∧ σ.length ≤ σ'.length ∧ K r σ'

@[congr] theorem callT_congr {P : Program} {f : FuncId} {as as' : List SV} {σ σ' : List SObj} {K : SV → List SObj → Prop} (h1 : as = as') (h2 : σ = σ') : CallT P f as σ K = CallT P f as' σ' K := by rw [h1, h2]

theorem CallT.mono {P : Program} {f : FuncId} {args : List SV} {σ : List SObj} {K K' : SV → List SObj → Prop} (h : CallT P f args σ K) (hk : ∀ r σ', K r σ' → K' r σ') : CallT P f args σ K' := by
  intro w0 ω0 β Φ ω w vs hR hl hv
  refine (h w0 ω0 β Φ ω w vs hR hl hv).mono fun e w' ⟨r, v, β', σ', Φ', ω', h1, h2, h3, h4, h5, h7, h6⟩ => ⟨r, v, β', σ', Φ', ω', h1, h2, h3, h4, h5, h7, hk _ _ h6⟩

def callOf (o : Oper) (g : Operand → SV) : Option (FuncId × List SV) :=
  match o.op with
  | .call c => match c.callee with
    | .value f => match g f with
      | .u (.fn id caps) => some (id, c.args.toList.map g ++ caps.map .u)
      | .fn id caps => some (id, c.args.toList.map g ++ caps)
      | .bm id first => some (id, first ++ c.args.toList.map g)
      | _ => none
    | _ => none
  | _ => none

theorem run_callFunc {P : Program} {f : FuncId} (h : enterable P f = true) (args : Array Value) (w : World) : (callFunc f args).run P w = .ok (.enter f args) w := by
  unfold enterable at h
  split at h <;> try cases h
  rename_i fn hf
  simp only [Bool.and_eq_true, bne_iff_ne] at h
  have h1 : (fn.name == "runtime.NumGoroutine") = false := by simpa using h.1
  have h2 : fn.body.isNone = false := by cases hb : fn.body <;> simp [hb] at h ⊢
  simp only [callFunc, Sem.run_bind, run_program, Result.andThen_ok, hf, h1, h2, Bool.false_eq_true, if_false, Sem.run_pure]

theorem call_enter {P : Program} {o : Oper} {g : Operand → SV} {f : FuncId} {as : List SV} (h : callOf o g = some (f, as)) (hen : enterable P f = true) {β : List Value} {Φ : Fz} {ρ : Operand → Value} (hg : ∀ x, V β Φ (g x) (ρ x)) :
    ∃ vs : List Value, (∀ w, (execOp ρ o).run P w = .ok (.enter f vs.toArray) w) ∧ vs.length = as.length ∧ ∀ (j : Nat) x v, as[j]? = some x → vs[j]? = some v → V β Φ x v := by
  unfold callOf at h
  split at h <;> try cases h
  rename_i c ho
  split at h <;> try cases h
  rename_i fo hc
  obtain ⟨callee, args, argTypes⟩ := c
  simp only at hc h
  subst hc
  have hargs : ∀ (j : Nat) x v, (args.toList.map g)[j]? = some x → (args.toList.map ρ)[j]? = some v → V β Φ x v := by
    intro j x v hx hv
    rw [List.getElem?_map] at hx hv
    obtain ⟨p, hp, rfl⟩ := Option.map_eq_some_iff.1 hx
    rw [hp] at hv; cases hv
    exact hg p
  have fin : ∀ (us : List Value) (caps : List SV), ρ fo = .func (.func f) #[] us.toArray → us.length = caps.length → (∀ (j : Nat) x (v : Value), caps[j]? = some x → us[j]? = some v → V β Φ x v) → as = args.toList.map g ++ caps →
      ∃ vs : List Value, (∀ w, (execOp ρ o).run P w = .ok (.enter f vs.toArray) w) ∧ vs.length = as.length ∧ ∀ (j : Nat) x v, as[j]? = some x → vs[j]? = some v → V β Φ x v := by
    intro us caps h1 h2 h3 h4
    subst h4
    refine ⟨args.toList.map ρ ++ us, fun w => ?_, by simp [h2], fun j x v hx hv => ?_⟩
    · simp only [execOp, ho, resolve, h1, Deferred.ofValue, Sem.run_bind, Sem.run_pure, Result.andThen_ok, invoke]
      have : #[] ++ args.map ρ ++ us.toArray = (args.toList.map ρ ++ us).toArray := by apply Array.ext'; simp
      rw [this]
      exact run_callFunc hen _ w
    · by_cases hj : j < (args.toList.map g).length
      · rw [List.getElem?_append_left hj] at hx
        rw [List.getElem?_append_left (by simpa using hj)] at hv
        exact hargs j x v hx hv
      · rw [List.getElem?_append_right (by omega)] at hx
        rw [List.getElem?_append_right (by simp at hj ⊢; omega)] at hv
        simp only [List.length_map] at hx hv
        exact h3 _ x v hx hv
  have hf := hg fo
  split at h <;> cases h
  · rename_i caps hgf
    rw [hgf] at hf
    obtain ⟨us, hu, hl, hj⟩ := hf.inv_ufn
    refine fin us (caps.map .u) hu (by simpa using hl) (fun j x v hx hv => ?_) rfl
    rw [List.getElem?_map] at hx
    obtain ⟨p, hp, rfl⟩ := Option.map_eq_some_iff.1 hx
    exact .u _ _ (hj j p v hp hv)
  · rename_i caps hgf
    rw [hgf] at hf
    obtain ⟨us, hu, hl, hj⟩ := hf.inv_fn
    exact fin us caps hu hl hj rfl
  · rename_i first hgf
    rw [hgf] at hf
    obtain ⟨us, hu, hl, hj⟩ := hf.inv_bm
    refine ⟨us ++ args.toList.map ρ, fun w => ?_, by simp [hl], fun j x v hx hv => ?_⟩
    · simp only [execOp, ho, resolve, hu, Deferred.ofValue, Sem.run_bind, Sem.run_pure, Result.andThen_ok, invoke]
      have : us.toArray ++ args.map ρ ++ #[] = (us ++ args.toList.map ρ).toArray := by apply Array.ext'; simp
      rw [this]
      exact run_callFunc hen _ w
    · by_cases hj' : j < first.length
      · rw [List.getElem?_append_left hj'] at hx
        rw [List.getElem?_append_left (by omega)] at hv
        exact hj j x v hx hv
      · rw [List.getElem?_append_right (by omega)] at hx hv
        rw [hl] at hv
        exact hargs _ x v hx hv

/-! ### what an operation looks at -/
theorem map_pair_congr {g g' : Operand → SV} {l : List (Nat × Operand)} (h : ∀ x ∈ l.map (·.2), g x = g' x) : (l.map fun p => (p.1, g p.2)) = l.map fun p => (p.1, g' p.2) :=
  List.map_congr_left fun p hp => by rw [h p.2 (List.mem_map.2 ⟨p, hp, rfl⟩)]

theorem opt_congr {g g' : Operand → SV} {x : Option Operand} (h : ∀ y ∈ x.toArray.toList, g y = g' y) : x.map g = x.map g' := by
  cases x with
  | none => rfl
  | some y => simp [h y (by simp)]

theorem evOp_congr {P : Program} {σ : Nat → SObj} {N : Nat} {o : Oper} {g g' : Operand → SV} (h : ∀ x ∈ o.op.operands.toList, g x = g' x) : evOp P σ N o g = evOp P σ N o g' := by
  unfold evOp
  cases ho : o.op <;> rw [ho] at h <;> simp only [Op.operands] at h ⊢ <;> try rfl
  case move x => rw [h x (by simp)]
  case assign x => rw [h x (by simp)]
  case pick c a b => rw [h c (by simp), h a (by simp), h b (by simp)]
  case box e x => rw [h x (by simp)]
  case build t ps => rw [map_pair_congr (by simpa using h)]
  case buildSlice t n ps => rw [map_pair_congr (by simpa using h)]
  case load t x => rw [h x (by simp)]
  case store t x y => rw [h x (by simp), h y (by simp)]
  case nilCheck x => rw [h x (by simp)]
  case binOp op t x y t' => rw [h x (by simp), h y (by simp)]
  case unOp u t x => cases u <;> simp only <;> rw [h x (by simp)]
  case convert s d x => rw [h x (by simp)]
  case makeSlice t l c => rw [h l (by simp), h c (by simp)]
  case makeFunc fn f c =>
    rw [List.map_congr_left (l := f.toList) (g := g') (fun x hx => h x (by simp at hx ⊢; exact .inl hx)), List.map_congr_left (l := c.toList) (g := g') (fun x hx => h x (by simp at hx ⊢; exact .inr hx))]
  case makeMap t rs => cases rs <;> rfl
  case slice t x lo hi mx =>
    rw [h x (by simp), opt_congr (x := lo) fun y hy => h y (by simp at hy ⊢; exact .inr (.inl hy)), opt_congr (x := hi) fun y hy => h y (by simp at hy ⊢; exact .inr (.inr (.inl hy))), opt_congr (x := mx) fun y hy => h y (by simp at hy ⊢; exact .inr (.inr (.inr hy)))]
  case fieldAddr t x f => rw [h x (by simp)]
  case field t x f => rw [h x (by simp)]
  case indexAddr t x i => rw [h x (by simp), h i (by simp)]
  case index t x i => rw [h x (by simp), h i (by simp)]
  case lookup t m k ok => rw [h m (by simp), h k (by simp)]
  case mapUpdate t m k x => rw [h m (by simp), h k (by simp), h x (by simp)]
  case insert t m k x => rw [h m (by simp), h k (by simp), h x (by simp)]
  case extract x i => rw [h x (by simp)]
  case range t x => rw [h x (by simp)]
  case entry x => rw [h x (by simp)]
  case call c =>
    obtain ⟨callee, args, argTypes⟩ := c
    have ha : ∀ x ∈ args.toList, g x = g' x := fun x hx => h x (by simp only [Call.operands]; simp at hx ⊢; exact .inr hx)
    simp only
    split
    · rename_i x t h1 h2; rw [ha x (by rw [h1]; simp)]
    · rename_i x y t t2 h1 h2; rw [ha x (by rw [h1]; simp), ha y (by rw [h1]; simp)]
    · rename_i x y h1; rw [ha x (by rw [h1]; simp), ha y (by rw [h1]; simp)]
    · rename_i x y h1; rw [ha x (by rw [h1]; simp), ha y (by rw [h1]; simp)]
    · rename_i x t h1 h2; rw [ha x (by rw [h1]; simp)]
    · rename_i x y t t2 h1 h2; rw [ha x (by rw [h1]; simp), ha y (by rw [h1]; simp)]
    · rfl

theorem callOf_congr {o : Oper} {g g' : Operand → SV} (h : ∀ x ∈ o.op.operands.toList, g x = g' x) : callOf o g = callOf o g' := by
  unfold callOf
  cases ho : o.op <;> try rfl
  rename_i c
  rw [ho] at h
  simp only [Op.operands] at h
  obtain ⟨callee, args, argTypes⟩ := c
  simp only
  cases callee <;> try rfl
  rename_i f
  simp only
  rw [h f (by simp [Call.operands]), List.map_congr_left (l := args.toList) (g := g') (fun x hx => h x (by simp [Call.operands] at hx ⊢; exact .inr hx))]

/-! ### guards -/
def sameK : List (Nat × Bool) → List (Nat × Bool) → Bool
  | [], [] => true
  | (a, x) :: r, (b, y) :: s => if a = b then (match x, y with | true, true => sameK r s | false, false => sameK r s | _, _ => false) else false
  | _, _ => false

def isSuf (k : List (Nat × Bool)) : List (Nat × Bool) → Bool
  | [] => sameK k []
  | x :: r => if sameK k (x :: r) then true else isSuf k r

def strip (key : List (Nat × Bool)) (x : SV) : SV :=
  match x with
  | .gd k c y => if isSuf k key then y else .gd k c y
  | x => x

/-- what is owed where a guarded value is taken under a guard -/
def gdOb (key : List (Nat × Bool)) (c : Bool) (x : SV) : Prop :=
  match x with
  | .gd k d _ => if isSuf k key then (c = true → d = true) else True
  | _ => True

def gdObs (key : List (Nat × Bool)) (c : Bool) (g : Operand → SV) : List Operand → Prop
  | [] => True
  | x :: r => gdOb key c (g x) ∧ gdObs key c g r

theorem gdObs_mem {key : List (Nat × Bool)} {c : Bool} {g : Operand → SV} : ∀ {l : List Operand}, gdObs key c g l → ∀ x ∈ l, gdOb key c (g x)
  | y :: l, h, x, hx => by
    rcases List.mem_cons.1 hx with rfl | hx
    · exact h.1
    · exact gdObs_mem h.2 x hx

open Classical in
theorem strip_rel {β : List Value} {Φ : Fz} {key : List (Nat × Bool)} {g : Operand → SV} {ρ : Operand → Value} {l : List Operand} (h : gdObs key true g l) (hg : ∀ x, V β Φ (g x) (ρ x)) :
    ∃ g' : Operand → SV, (∀ x ∈ l, g' x = strip key (g x)) ∧ ∀ x, V β Φ (g' x) (ρ x) := by
  refine ⟨fun x => if gdOb key true (g x) then strip key (g x) else g x, fun x hx => if_pos (gdObs_mem h x hx), fun x => ?_⟩
  simp only
  split
  · rename_i hob
    have hv := hg x
    unfold strip
    unfold gdOb at hob
    split
    · rename_i k d y he
      rw [he] at hob hv
      simp only at hob
      split
      · rename_i hs
        rw [if_pos hs] at hob
        cases hv with | gd _ _ _ _ hv _ => exact hv (by simpa using hob)
      · exact hv
    · exact hv
  · exact hg x

/-- the key and the truth of a guard -/
def gdOf (x : SV) (s : Nat) (want : Bool) : Option (List (Nat × Bool) × Bool) :=
  match x with
  | .u (.b t) => some ([(s, want)], t == want)
  | .gd k c (.u (.b t)) => some ((s, want) :: k, c && (t == want))
  | _ => none


def usesN : Op → Bool
  | .alloc _ | .box _ _ | .makeMap _ _ | .makeSlice _ _ _ | .range _ _ => true
  | .call { callee := .builtin .append, .. } => true
  | _ => false

def rdOK (σ : List SObj) : List (Nat × SObj) → Prop
  | [] => True
  | (n, ob) :: r => σ[n]? = some ob ∧ rdOK σ r

theorem rdOK_mem {σ : List SObj} : ∀ {rd : List (Nat × SObj)}, rdOK σ rd → ∀ n ob, (n, ob) ∈ rd → σ[n]? = some ob
  | p :: rd, h, n, ob, hm => by
    rcases List.mem_cons.1 hm with rfl | hm
    · exact h.1
    · exact rdOK_mem h.2 n ob hm

def slotOf (ops : Array Oper) (j : Nat) : Option Nat := (ops[j]?).bind (·.dst)

/-- any value of a type -/
def zsv (P : Program) (t : TypeId) : SV := match tiOf P t with | some ti => rdCells ti (ti.zero.map .u) 0 | none => .j

/-- one operation, then the rest -/
def evStep (P : Program) (sl : Nat → Option Nat) (o : Oper) (e : Env) (σ : List SObj) (N : Nat) (K : Env → List SObj → Prop) : Prop :=
  match o.guard with
  | none => match callOf o (opnd e) with
    | some (f, as) => enterable P f = true ∧ CallT P f as σ fun r σ' => K (e.put o.dst r) σ'
    | none => match evOp P (fun n => σ.getD n .dead) N o (opnd e) with
      | .bad => False
      | .ok ob rd r wr => (ob ∧ rdOK σ rd) ∧ K (e.put o.dst r) (setAll σ wr)
  | some (j, want) => match sl j with
    | none => False
    | some s => match gdOf (e.get s) s want with
      | none => False
      | some (key, c) => match callOf o (fun x => strip key (opnd e x)) with
        | some (f, as) => (c = true → gdObs key c (opnd e) o.op.operands.toList ∧ enterable P f = true ∧ CallT P f as σ fun r σ' => K (e.put o.dst r) σ') ∧ (c = false → K (e.put o.dst (.gd key false (zsv P o.type))) σ)
        | none => match evOp P (fun n => σ.getD n .dead) N o (fun x => strip key (opnd e x)) with
          | .bad => c = false ∧ K (e.put o.dst (.gd key false (zsv P o.type))) σ
          | .ok ob rd r [] => (c = true → gdObs key c (opnd e) o.op.operands.toList ∧ ob ∧ rdOK σ rd) ∧ K (e.put o.dst (.gd key c r)) σ
          | .ok ob rd r wr => (c = true → gdObs key c (opnd e) o.op.operands.toList ∧ (ob ∧ rdOK σ rd) ∧ K (e.put o.dst r) (setAll σ wr)) ∧ (c = false → K (e.put o.dst (.gd key false (zsv P o.type))) σ)

def evOps (P : Program) (sl : Nat → Option Nat) : List Oper → Env → List SObj → Nat → (Env → List SObj → Prop) → Prop
  | [], e, σ, _, K => K e σ
  | o :: os, e, σ, N, K => evStep P sl o e σ N fun e' σ' => evOps P sl os e' σ' (if usesN o.op then N + 1 else N) K

def OpsS (P : Program) (c : Cx) (ops : Array Oper) (l : List Nat) (e : Env) (σ : List SObj) (K : Env → List SObj → Prop) : Prop :=
  ∀ (a : Act) (w : World) (Q : Exit → Act → World → Prop), St c e σ a w → (∀ a w e' σ', St c e' σ' a w → K e' σ' → Q .normal a w) → wpOps P ops Q l a w

theorem St.put {c : Cx} {e : Env} {σ : List SObj} {a : Act} {w : World} {d : Option Tmp} {x : SV} {v : Value} {β : List Value} {Φ : Fz} {ω : Nat → Nat} (hd : ∀ t, d = some t → t < c.nt) (h1 : BExt c.β0 β) (h2 : c.Φ0.le Φ) (h3 : a.defers = []) (h4 : a.tmps.size = c.nt)
    (h5 : EnvOK β Φ e a.tmps) (h6 : Rep c.w0 c.ω0 β σ Φ ω w) (hv : V β Φ x v) : St c (e.put d x) σ (a.put d v) w :=
  ⟨β, Φ, ω, h1, h2, by rw [defers_put]; exact h3, by rw [size_put]; exact h4, h5.put (fun t ht => by rw [h4]; exact hd t ht) hv, h6⟩

/-- a value operation, done -/
theorem wp_of_opR {P : Program} {o : Oper} {c : Cx} {e : Env} {σ : List SObj} {a : Act} {w : World} {g : Operand → SV} {rd : List (Nat × SObj)} {r : SV} {wr : List (Nat × SObj)} {next : Act → World → Prop} {Q : Exit → Act → World → Prop}
    (hO : OpR P o g rd r wr) (hd : ∀ t, o.dst = some t → t < c.nt) {β : List Value} {Φ : Fz} {ω : Nat → Nat} (h1 : BExt c.β0 β) (h2 : c.Φ0.le Φ) (h3 : a.defers = []) (h4 : a.tmps.size = c.nt)
    (h5 : EnvOK β Φ e a.tmps) (h6 : Rep c.w0 c.ω0 β σ Φ ω w) (hg : ∀ x, V β Φ (g x) (a.eval x)) (hrd : rdOK σ rd) (hn : ∀ a' w', St c (e.put o.dst r) (setAll σ wr) a' w' → next a' w') : o.wp P a w next Q := by
  obtain ⟨nx, v, w', β', Φ', ω', hr, hnx, hb, hl, hle, hv, hR⟩ := hO c.w0 c.ω0 β Φ ω σ w a.eval h6 hg (rdOK_mem hrd)
  have hst : St c (e.put o.dst r) (setAll σ wr) (a.put o.dst v) w' := St.put hd (h1.trans hb) (Fz.le_trans h2 hle) h3 h4 (h5.mono hb hle) hR hv
  unfold Oper.wp
  rw [hr]
  rcases hnx with rfl | ⟨rfl, rfl⟩
  · exact hn _ _ hst
  · exact hn _ _ hst

theorem wp_of_callT {P : Program} {o : Oper} {c : Cx} {e : Env} {σ : List SObj} {a : Act} {w : World} {g : Operand → SV} {f : FuncId} {as : List SV} {K : SV → List SObj → Prop} {next : Act → World → Prop} {Q : Exit → Act → World → Prop}
    (hc : callOf o g = some (f, as)) (hen : enterable P f = true) (hC : CallT P f as σ K) (hd : ∀ t, o.dst = some t → t < c.nt) {β : List Value} {Φ : Fz} {ω : Nat → Nat} (h1 : BExt c.β0 β) (h2 : c.Φ0.le Φ) (h3 : a.defers = []) (h4 : a.tmps.size = c.nt)
    (h5 : EnvOK β Φ e a.tmps) (h6 : Rep c.w0 c.ω0 β σ Φ ω w) (hg : ∀ x, V β Φ (g x) (a.eval x)) (hn : ∀ r σ' a' w', K r σ' → St c (e.put o.dst r) σ' a' w' → next a' w') : o.wp P a w next Q := by
  obtain ⟨vs, hr, hl, hv⟩ := call_enter (ρ := a.eval) hc hen hg
  unfold Oper.wp
  rw [hr w, Oper.upon_enter]
  refine (hC c.w0 c.ω0 β Φ ω w vs h6 hl hv).mono fun en w' ⟨r, v, β', σ', Φ', ω', he, hb, hle, hvr, hR, _, hK⟩ => ?_
  subst he
  exact hn r σ' _ w' hK (St.put hd (h1.trans hb) (Fz.le_trans h2 hle) h3 h4 (h5.mono hb hle) hR hvr)

theorem wpOps_cons {P : Program} {ops : Array Oper} {Q : Exit → Act → World → Prop} {i : Nat} {rest : List Nat} {a : Act} {w : World} {o : Oper} (ho : ops[i]? = some o)
    (h : if Region.wanted o (yielded ops a.tmps) then o.wp P a w (wpOps P ops Q rest) Q else wpOps P ops Q rest (a.put o.dst undef) w) : wpOps P ops Q (i :: rest) a w := by
  simp only [wpOps, ho]
  by_cases hw : Region.wanted o (yielded ops a.tmps) = true
  · rw [if_pos hw] at h ⊢; exact .inl h
  · rw [if_neg hw] at h ⊢; exact h

/-- what the guard's slot holds decides -/
theorem wanted_of {β : List Value} {Φ : Fz} {e : Env} {a : Act} {ops : Array Oper} {o : Oper} {j s : Nat} {want : Bool} {key : List (Nat × Bool)} {c : Bool} (hgd : o.guard = some (j, want)) (hs : slotOf ops j = some s) (hg : gdOf (e.get s) s want = some (key, c))
    (henv : EnvOK β Φ e a.tmps) (hlt : s < a.tmps.size) : Region.wanted o (yielded ops a.tmps) = c := by
  have hv := henv s
  have hy : yielded ops a.tmps j = match a.tmps.getD s undef with | .bool b => some b | _ => none := by
    unfold yielded
    have : (ops[j]?).bind (·.dst) = some s := hs
    rw [this]
    simp only [Option.bind_some]
    rw [Array.getElem?_eq_getElem hlt]
    simp only [Array.getD_eq_getD_getElem?, Array.getElem?_eq_getElem hlt, Option.getD_some]
    cases a.tmps[s] <;> rfl
  unfold Region.wanted
  rw [hgd]
  simp only
  unfold gdOf at hg
  split at hg <;> cases hg
  · rename_i t he
    rw [he] at hv
    rw [hy, hv.inv_b]
    cases t <;> cases want <;> rfl
  · rename_i k d t he
    rw [he] at hv
    cases d with
    | true =>
      cases hv with | gd _ _ _ _ hv _ =>
      rw [hy, (hv rfl).inv_b]
      cases t <;> cases want <;> rfl
    | false =>
      cases hv with | gd _ _ _ _ _ h0 =>
      rw [hy, h0 rfl]
      cases want <;> rfl

theorem evStep_ok {P : Program} {ops : Array Oper} {o : Oper} {c : Cx} {e : Env} {σ : List SObj} {N : Nat} {K K' : Env → List SObj → Prop} {i : Nat} {rest : List Nat} (ho : ops[i]? = some o) (hsl : ∀ j s, slotOf ops j = some s → s < c.nt)
    (h : evStep P (slotOf ops) o e σ N K) (hrest : ∀ e' σ', K e' σ' → OpsS P c ops rest e' σ' K') : OpsS P c ops (i :: rest) e σ K' := by
  intro a w Q hst hfin
  obtain ⟨β, Φ, ω, h1, h2, h3, h4, h5, h6⟩ := hst
  have hd : ∀ t, o.dst = some t → t < c.nt := fun t ht => hsl i t (by unfold slotOf; rw [ho]; exact ht)
  have hopnd : ∀ x, V β Φ (opnd e x) (a.eval x) := fun x => h5.opnd h6.gl x
  have cont : ∀ e' σ' a' w', K e' σ' → St c e' σ' a' w' → wpOps P ops Q rest a' w' := fun e' σ' a' w' hK hs => hrest e' σ' hK a' w' Q hs hfin
  have skip : ∀ (key : List (Nat × Bool)) (x : SV), St c (e.put o.dst (.gd key false x)) σ (a.put o.dst undef) w := fun key x => St.put hd h1 h2 h3 h4 h5 h6 (.gd _ _ _ _ (by simp) (fun _ => rfl))
  refine wpOps_cons ho ?_
  unfold evStep at h
  split at h
  · rename_i hgd
    have hw : Region.wanted o (yielded ops a.tmps) = true := by simp [Region.wanted, hgd]
    rw [if_pos hw]
    split at h
    · rename_i f as hc
      obtain ⟨hen, hC⟩ := h
      exact wp_of_callT hc hen hC hd h1 h2 h3 h4 h5 h6 hopnd fun r σ' a' w' hK hs => cont _ _ a' w' hK hs
    · split at h
      · exact h.elim
      · rename_i ob rd r wr hev
        obtain ⟨⟨hob, hrd⟩, hK⟩ := h
        exact wp_of_opR (evOp_ok hev hob) hd h1 h2 h3 h4 h5 h6 hopnd hrd fun a' w' hs => cont _ _ a' w' hK hs
  · rename_i j want hgd
    split at h
    · exact h.elim
    · rename_i s hs
      split at h
      · exact h.elim
      · rename_i key cb hg
        have hwant := wanted_of hgd hs hg h5 (by rw [h4]; exact hsl j s hs)
        rw [hwant]
        have rel : cb = true → gdObs key cb (opnd e) o.op.operands.toList → ∃ g' : Operand → SV, (∀ x ∈ o.op.operands.toList, g' x = strip key (opnd e x)) ∧ ∀ x, V β Φ (g' x) (a.eval x) := by
          intro hct hobs
          subst hct
          exact strip_rel hobs hopnd
        split at h
        · rename_i f as hc
          obtain ⟨hA, hB⟩ := h
          cases cb with
          | true =>
            obtain ⟨hobs, hen, hC⟩ := hA rfl
            obtain ⟨g', hg1, hg2⟩ := rel rfl hobs
            rw [← callOf_congr hg1] at hc
            exact wp_of_callT hc hen hC hd h1 h2 h3 h4 h5 h6 hg2 fun r σ' a' w' hK hs => cont _ _ a' w' hK hs
          | false => exact cont _ _ _ _ (hB rfl) (skip _ _)
        · split at h
          · obtain ⟨rfl, hK⟩ := h
            exact cont _ _ _ _ hK (skip _ _)
          · rename_i ob rd r hev
            obtain ⟨hA, hK⟩ := h
            cases cb with
            | true =>
              obtain ⟨hobs, hob, hrd⟩ := hA rfl
              obtain ⟨g', hg1, hg2⟩ := rel rfl hobs
              rw [← evOp_congr hg1] at hev
              refine wp_of_opR (evOp_ok hev hob) hd h1 h2 h3 h4 h5 h6 hg2 hrd fun a' w' hs => cont _ _ a' w' hK ?_
              obtain ⟨β', Φ', ω', k1, k2, k3, k4, k5, k6⟩ := hs
              refine ⟨β', Φ', ω', k1, k2, k3, k4, fun t => ?_, k6⟩
              have := k5 t
              cases hdst : o.dst with
              | none => rw [hdst] at this; exact this
              | some d =>
                rw [hdst] at this
                simp only [Env.put, Env.get] at this ⊢
                by_cases hdt : d = t
                · rw [if_pos hdt] at this ⊢; exact .gd _ _ _ _ (fun _ => this) (by simp)
                · rw [if_neg hdt] at this ⊢; exact this
            | false =>
              have : St c (e.put o.dst (.gd key false r)) σ (a.put o.dst undef) w := St.put hd h1 h2 h3 h4 h5 h6 (.gd _ _ _ _ (by simp) (fun _ => rfl))
              exact cont _ _ _ _ hK this
          · rename_i ob rd r wr hwr hev
            obtain ⟨hA, hB⟩ := h
            cases cb with
            | true =>
              obtain ⟨hobs, ⟨hob, hrd⟩, hK⟩ := hA rfl
              obtain ⟨g', hg1, hg2⟩ := rel rfl hobs
              rw [← evOp_congr hg1] at hev
              exact wp_of_opR (evOp_ok hev hob) hd h1 h2 h3 h4 h5 h6 hg2 hrd fun a' w' hs => cont _ _ a' w' hK hs
            | false => exact cont _ _ _ _ (hB rfl) (skip _ _)

theorem evOps_ok {P : Program} {c : Cx} {ops : Array Oper} (hsl : ∀ j s, slotOf ops j = some s → s < c.nt) {K : Env → List SObj → Prop} : ∀ (os : List Oper) (k : Nat) (e : Env) (σ : List SObj) (N : Nat), ops.toList.drop k = os → k + os.length = ops.size →
    evOps P (slotOf ops) os e σ N K → OpsS P c ops ((List.range ops.size).drop k) e σ K
  | [], k, e, σ, N, hd, hl, h => by
    have : (List.range ops.size).drop k = [] := List.drop_eq_nil_of_le (by simp at hl ⊢; omega)
    rw [this]
    intro a w Q hst hfin
    exact hfin a w e σ hst h
  | o :: os, k, e, σ, N, hd, hl, h => by
    have hk : k < ops.size := by simp at hl; omega
    have e1 : (List.range ops.size).drop k = k :: (List.range ops.size).drop (k + 1) := by
      rw [List.drop_eq_getElem_cons (by simpa using hk)]; simp
    have ho : ops[k]? = some o := by
      have := congrArg (·[0]?) hd
      simpa using this
    have hd' : ops.toList.drop (k + 1) = os := by
      have := congrArg (List.drop 1) hd
      rw [List.drop_drop] at this
      simpa [Nat.add_comm] using this
    rw [e1]
    exact evStep_ok ho hsl h fun e' σ' hK => evOps_ok hsl os (k + 1) e' σ' _ hd' (by simp at hl; omega) hK

/-! ### the code -/
def WPS (P : Program) (c : Cx) (code : Code) (e : Env) (σ : List SObj) (Q : Exit → Env → List SObj → Prop) : Prop :=
  ∀ (a : Act) (w : World), St c e σ a w → code.wp P (fun ex a w => ∃ e' σ', St c e' σ' a w ∧ Q ex e' σ') a w

def dstOK (nt : Nat) (ops : Array Oper) : Bool := ops.toList.all fun o => match o.dst with | some d => decide (d < nt) | none => true

theorem dstOK_slot {nt : Nat} {ops : Array Oper} (h : dstOK nt ops = true) : ∀ j s, slotOf ops j = some s → s < nt := by
  intro j s hs
  unfold slotOf at hs
  obtain ⟨o, ho, hd⟩ := Option.bind_eq_some_iff.1 hs
  have := List.all_eq_true.1 h o (by rw [← Array.getElem?_toList] at ho; exact List.mem_of_getElem? ho)
  simpa [hd] using this

theorem St.reserve {c : Cx} {e : Env} {σ : List SObj} {a : Act} {w : World} (h : St c e σ a w) (k : Nat) : St c e (σ ++ List.replicate k .unborn) a w := by
  obtain ⟨β, Φ, ω, h1, h2, h3, h4, h5, h6⟩ := h
  exact ⟨_, Φ, ω, h1.trans (BExt.append _ _), h2, h3, h4, h5.mono (BExt.append _ _) (Fz.le_refl _), h6.reserve k⟩

section
variable {P : Program} {c : Cx} {e : Env} {σ : List SObj} {Q : Exit → Env → List SObj → Prop}

theorem wps_region {id : Nat} {ops : Array Oper} (hd : dstOK c.nt ops = true) (k : Nat) (h : evOps P (slotOf ops) ops.toList e (σ ++ List.replicate k .unborn) σ.length fun e' σ' => Q .normal e' σ') : WPS P c (.region id ops false) e σ Q := by
  intro a w hst
  refine wp_region ?_
  have := evOps_ok (dstOK_slot hd) ops.toList 0 e (σ ++ List.replicate k .unborn) σ.length rfl (by simp) h
  exact this a w _ (hst.reserve k) fun a w e' σ' hs hK => ⟨e', σ', hs, hK⟩

theorem wps_seq {x y : Code} (h : ∀ K : Env → List SObj → Prop, (∀ e' σ', WPS P c y e' σ' Q → K e' σ') → WPS P c x e σ fun ex e' σ' => match ex with | .normal => K e' σ' | ex => Q ex e' σ') : WPS P c (.seq x y) e σ Q := by
  intro a w hst
  refine wp_seq ?_
  refine wp_mono (h (fun e' σ' => WPS P c y e' σ' Q) (fun _ _ h => h) a w hst) fun ex a w hq => ?_
  obtain ⟨e', σ', hs, hK⟩ := hq
  cases ex with
  | normal => exact hK a w hs
  | exit id => exact ⟨e', σ', hs, hK⟩
  | goto l => exact ⟨e', σ', hs, hK⟩
  | ret => exact ⟨e', σ', hs, hK⟩
  | panic ch => exact ⟨e', σ', hs, hK⟩
  | outgrown => exact ⟨e', σ', hs, hK⟩

theorem wps_skip (h : Q .normal e σ) : WPS P c .skip e σ Q := fun a w hst => wp_skip ⟨e, σ, hst, h⟩
theorem wps_ret (h : Q .ret e σ) : WPS P c .ret e σ Q := fun a w hst => wp_ret ⟨e, σ, hst, h⟩
theorem wps_exit {id : Nat} (h : Q (.exit id) e σ) : WPS P c (.exit id) e σ Q := fun a w hst => wp_exit ⟨e, σ, hst, h⟩

theorem wps_cond {x : Operand} {t f : Code} {b : Bool} (hx : opnd e x = .u (.b b)) (ht : b = true → WPS P c t e σ Q) (hf : b = false → WPS P c f e σ Q) : WPS P c (.cond x t f) e σ Q := by
  intro a w hst
  have hst' := hst
  obtain ⟨β, Φ, ω, h1, h2, h3, h4, h5, h6⟩ := hst
  have hv := h5.opnd h6.gl x
  rw [hx] at hv
  exact wp_cond_split hv.inv_b (fun hb => ht hb a w hst') (fun hb => hf hb a w hst')

theorem wps_block {id : Nat} {b : Code} (h : WPS P c b e σ fun ex e' σ' => match ex with | .exit id' => if id' = id then Q .normal e' σ' else Q (.exit id') e' σ' | ex => Q ex e' σ') : WPS P c (.block id b) e σ Q := by
  intro a w hst
  refine wp_block (wp_mono (h a w hst) fun ex a w hq => ?_)
  obtain ⟨e', σ', hs, hK⟩ := hq
  cases ex with
  | exit id' =>
    simp only [Exit.inBlock]
    by_cases hid : id' = id
    · simp only [hid, if_true] at hK ⊢; exact ⟨e', σ', hs, hK⟩
    · simp only [hid, if_false] at hK ⊢; exact ⟨e', σ', hs, hK⟩
  | normal => exact ⟨e', σ', hs, hK⟩
  | goto l => exact ⟨e', σ', hs, hK⟩
  | ret => exact ⟨e', σ', hs, hK⟩
  | panic ch => exact ⟨e', σ', hs, hK⟩
  | outgrown => exact ⟨e', σ', hs, hK⟩

/-- one way of seeing a state gives another -/
def Ent (c : Cx) (e : Env) (σ : List SObj) (e' : Env) (σ' : List SObj) : Prop := ∀ a w, St c e σ a w → St c e' σ' a w

theorem wps_ent {code : Code} {e' : Env} {σ' : List SObj} (hE : Ent c e σ e' σ') (h : WPS P c code e' σ' Q) : WPS P c code e σ Q := fun a w hst => h a w (hE a w hst)

/-- a loop: what holds at the head of every round, with a number that falls -/
theorem wps_loop {b : Code} (I : Nat → Env → List SObj → Prop) {k0 : Nat} {e0 : Env} {σ0 : List SObj} (hE : Ent c e σ e0 σ0) (h0 : I k0 e0 σ0)
    (round : ∀ (K : Env → List SObj → Prop) k e1 σ1, I k e1 σ1 → (∀ e2 σ2 k' e3 σ3, Ent c e2 σ2 e3 σ3 → I k' e3 σ3 → k' < k → K e2 σ2) → WPS P c b e1 σ1 fun ex e2 σ2 => match ex with | .normal => K e2 σ2 | ex => Q ex e2 σ2) :
    WPS P c (.loop b) e σ Q := by
  intro a w hst b0 k cs
  have key : ∀ n e1 σ1 a w, I n e1 σ1 → St c e1 σ1 a w → ∃ ex a' w', (∃ e' σ', St c e' σ' a' w' ∧ Q ex e' σ') ∧ Arrives P (lone (b0.at a (.code b :: .inLoop b :: k)) cs w) b0 k cs ex a' w' := by
    intro n
    induction n using Nat.strongRecOn with
    | _ n ih =>
      intro e1 σ1 a w hI hs
      obtain ⟨ex, a1, w1, ⟨e2, σ2, hs2, hq⟩, harr⟩ := round (fun e2 σ2 => ∃ k' e3 σ3, k' < n ∧ I k' e3 σ3 ∧ Ent c e2 σ2 e3 σ3) n e1 σ1 hI (fun e2 σ2 k' e3 σ3 hE hI' hlt => ⟨k', e3, σ3, hlt, hI', hE⟩) a w hs b0 (.inLoop b :: k) cs
      cases ex with
      | normal =>
        obtain ⟨k', e3, σ3, hlt, hI', hE'⟩ := hq
        obtain ⟨ex2, a2, w2, hq2, harr2⟩ := ih k' hlt e3 σ3 a1 w1 hI' (hE' a1 w1 hs2)
        exact ⟨ex2, a2, w2, hq2, .of_steps (Steps.trans harr (.one step_inLoop)) harr2⟩
      | exit id => exact ⟨_, a1, w1, ⟨e2, σ2, hs2, hq⟩, .pass (x := .inLoop b) rfl (fun _ _ => .inl (by simp)) harr⟩
      | goto l => exact ⟨_, a1, w1, ⟨e2, σ2, hs2, hq⟩, .pass (x := .inLoop b) rfl (fun _ _ => .inl (by simp)) harr⟩
      | ret => exact ⟨_, a1, w1, ⟨e2, σ2, hs2, hq⟩, .pass (x := .inLoop b) rfl (fun _ _ => .inl (by simp)) harr⟩
      | panic ch => exact ⟨_, a1, w1, ⟨e2, σ2, hs2, hq⟩, .pass (x := .inLoop b) rfl (fun _ _ => .inl (by simp)) harr⟩
      | outgrown => exact ⟨_, a1, w1, ⟨e2, σ2, hs2, hq⟩, .pass (x := .inLoop b) rfl (fun _ _ => .inl (by simp)) harr⟩
  obtain ⟨ex, a', w', hq, harr⟩ := key k0 e0 σ0 a w h0 (hE a w hst)
  exact ⟨ex, a', w', hq, .of_steps (.one step_loop) harr⟩
end

/-! ### functions -/
/-- the results of a function, read -/
def resSV (e : Env) (σ : List SObj) (P : Program) : ResultVar → Option SV
  | .tmp t => some (e.get t)
  | .cell x t => match tiOf P t with
    | some ti => match evLoad (fun n => σ.getD n .dead) ti (e.get x) with
      | .ok _ _ r _ => some r
      | .bad => none
    | none => none

def resOb (e : Env) (σ : List SObj) (P : Program) : ResultVar → Prop
  | .tmp _ => True
  | .cell x t => match tiOf P t with
    | some ti => match evLoad (fun n => σ.getD n .dead) ti (e.get x) with
      | .ok ob rd _ _ => (ob ∧ 0 < ti.size) ∧ rdOK σ rd
      | .bad => False
    | none => False

def retSV : List SV → SV
  | [x] => x
  | l => .tup l

def resAll (e : Env) (σ : List SObj) (P : Program) : List ResultVar → Option (List SV)
  | [] => some []
  | r :: rs => match resSV e σ P r, resAll e σ P rs with
    | some x, some l => some (x :: l)
    | _, _ => none

def resObs (e : Env) (σ : List SObj) (P : Program) : List ResultVar → Prop
  | [] => True
  | r :: rs => resOb e σ P r ∧ resObs e σ P rs

def resF (tmps : Array Value) : ResultVar → Sem Value
  | .tmp t => pure (tmps.getD t undef)
  | .cell a t => do loadVar t (← asAddr (tmps.getD a undef))

theorem results_eq (fn : Func) (tmps : Array Value) : results fn tmps = (do let vs ← fn.results.mapM (resF tmps); pure (if h : vs.size = 1 then vs[0] else .tuple vs)) := by
  unfold results
  congr 1

theorem run_res {P : Program} {c : Cx} {e : Env} {σ : List SObj} {tmps : Array Value} {w : World} {β : List Value} {Φ : Fz} {ω : Nat → Nat} (h5 : EnvOK β Φ e tmps) (h6 : Rep c.w0 c.ω0 β σ Φ ω w) :
    ∀ (rs : List ResultVar) (l : List SV), resAll e σ P rs = some l → resObs e σ P rs → ∃ vs : List Value, (rs.mapM (m := Sem) (resF tmps)).run P w = .ok vs w ∧ vs.length = l.length ∧ ∀ (j : Nat) x v, l[j]? = some x → vs[j]? = some v → V β Φ x v
  | [], l, h, _ => by cases h; exact ⟨[], by simp, rfl, by simp⟩
  | r :: rs, l, h, ho => by
    unfold resAll at h
    split at h <;> cases h
    rename_i x l' hx hl
    obtain ⟨vs, h1, h2, h3⟩ := run_res h5 h6 rs l' hl ho.2
    have key : ∃ v, (resF tmps r).run P w = .ok v w ∧ V β Φ x v := by
      cases r with
      | tmp t =>
        cases hx
        exact ⟨_, rfl, h5 t⟩
      | cell s t =>
        have hob := ho.1
        simp only [resSV] at hx
        simp only [resOb] at hob
        cases ht : tiOf P t with
        | none => rw [ht] at hob; exact hob.elim
        | some ti =>
          rw [ht] at hob hx
          simp only at hob hx
          cases hev : evLoad (fun n => σ.getD n .dead) ti (e.get s) with
          | bad => rw [hev] at hob; exact hob.elim
          | ok ob rd r wr =>
            rw [hev] at hob hx
            simp only at hob hx
            cases hx
            obtain ⟨_, ad, u, h1, h2, h3⟩ := load_val ht hev hob.1.1 hob.1.2 h6 (h5 s) (rdOK_mem hob.2)
            refine ⟨u, ?_, h3⟩
            simp only [resF, h1, asAddr, Sem.run_bind, Sem.run_pure, Result.andThen_ok, h2]
    obtain ⟨v, hv1, hv2⟩ := key
    refine ⟨v :: vs, ?_, by simp [h2], fun j y u hy hu => ?_⟩
    · rw [List.mapM_cons]
      simp only [Sem.run_bind]
      rw [hv1]
      simp only [Result.andThen_ok, h1, Sem.run_pure]
    · cases j with
      | zero => simp at hy hu; subst hy hu; exact hv2
      | succ j => exact h3 j y u (by simpa using hy) (by simpa using hu)

theorem run_results {P : Program} {fn : Func} {c : Cx} {e : Env} {σ : List SObj} {tmps : Array Value} {w : World} {β : List Value} {Φ : Fz} {ω : Nat → Nat} (h5 : EnvOK β Φ e tmps) (h6 : Rep c.w0 c.ω0 β σ Φ ω w) {l : List SV}
    (h : resAll e σ P fn.results.toList = some l) (ho : resObs e σ P fn.results.toList) : ∃ v, (results fn tmps).run P w = .ok v w ∧ V β Φ (retSV l) v := by
  obtain ⟨vs, h1, h2, h3⟩ := run_res h5 h6 _ l h ho
  refine ⟨if h : vs.toArray.size = 1 then vs.toArray[0] else .tuple vs.toArray, ?_, ?_⟩
  · rw [results_eq]
    simp only [Sem.run_bind, Array.mapM_eq_mapM_toList, Sem.run_map]
    rw [h1]
    simp only [Result.andThen_ok, Sem.run_pure]
  · match l, vs, h2, h3 with
    | [x], [v], _, h3 => exact h3 0 x v rfl rfl
    | [], [], _, h3 => simp only [retSV]; exact .tup [] [] rfl (by simp)
    | x :: y :: l, u :: v :: vs, h2, h3 =>
      simp only [retSV]
      rw [dif_neg (by simp)]
      exact .tup _ _ h2 h3

/-- the environment at a function's entry -/
def enterEnv (k : Nat) : List SV → Env
  | [] => []
  | x :: r => (k, x) :: enterEnv (k + 1) r

theorem enterEnv_get : ∀ (args : List SV) (k t : Nat), (enterEnv k args).get t = if k ≤ t then (args[t - k]?).getD .j else .j
  | [], k, t => by simp [enterEnv, Env.get]
  | x :: r, k, t => by
    simp only [enterEnv, Env.get]
    by_cases h : k = t
    · subst h; simp
    · rw [if_neg h, enterEnv_get r (k + 1) t]
      by_cases hk : k ≤ t
      · rw [if_pos (by omega), if_pos hk, show t - k = (t - (k + 1)) + 1 by omega, List.getElem?_cons_succ]
      · rw [if_neg (by omega), if_neg hk]

end Go.Nm
