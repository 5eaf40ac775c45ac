/- The evaluator over one operation, and over a list of operations in order. -/
import Derived.Test.YteoihmgigmiajaaNm12
set_option linter.all false
set_option linter.unusedSimpArgs false
set_option linter.unusedVariables false
namespace Go.Nm

def evPick (t : Bool) (x y : SV) : Ev :=
  match x, y with
  | .u (.b p), .u (.b q) => .ok True [] (.u (.b (cond t p q))) []
  | .u (.b p), .gd _ d (.u (.b q)) => .ok (t = false → d = true) [] (.u (.b (cond t p q))) []
  | .gd _ d (.u (.b p)), .u (.b q) => .ok (t = true → d = true) [] (.u (.b (cond t p q))) []
  | x, y => .ok True [] (if t then x else y) []

def evMax (x y : SV) : Ev :=
  match x, y with
  | .u (.i k a), .u (.i _ b) => .ok True [] (.u (.i k (max a b))) []
  | _, _ => .bad
def evMin (x y : SV) : Ev :=
  match x, y with
  | .u (.i k a), .u (.i _ b) => .ok True [] (.u (.i k (min a b))) []
  | _, _ => .bad

theorem op_max {P : Program} {o : Oper} {g : Operand → SV} {ts : Array TypeId} {x y : Operand} (ho : o.op = .call { callee := .builtin .max, args := #[x, y], argTypes := ts }) {ob : Prop} {rd : List (Nat × SObj)} {r : SV} {wr : List (Nat × SObj)}
    (he : evMax (g x) (g y) = .ok ob rd r wr) : OpR P o g rd r wr := by
  have hex : ∀ (ρ : Operand → Value) (w : World) (v : Value), (Builtin.max_ ts o.type #[ρ x, ρ y]).run P w = .ok v w → (execOp ρ o).run P w = .ok (.value v) w := by
    intro ρ w v h
    simp [execOp, ho, resolve, invoke, builtin, h]
  unfold evMax at he
  split at he <;> cases he
  rename_i k a k' b hx hy
  refine OpR.pure fun β Φ ρ w hg => ⟨_, hex ρ w (.int k (max a b)) ?_, V.mk_i _ _⟩
  rw [(hx ▸ hg x : V β Φ (.u (.i k a)) (ρ x)).inv_i, (hy ▸ hg y : V β Φ (.u (.i k' b)) (ρ y)).inv_i]
  have : (if b > a then b else a) = max a b := by omega
  simp [Builtin.max_, Builtin.max2, this]
theorem op_min {P : Program} {o : Oper} {g : Operand → SV} {ts : Array TypeId} {x y : Operand} (ho : o.op = .call { callee := .builtin .min, args := #[x, y], argTypes := ts }) {ob : Prop} {rd : List (Nat × SObj)} {r : SV} {wr : List (Nat × SObj)}
    (he : evMin (g x) (g y) = .ok ob rd r wr) : OpR P o g rd r wr := by
  have hex : ∀ (ρ : Operand → Value) (w : World) (v : Value), (Builtin.min_ ts o.type #[ρ x, ρ y]).run P w = .ok v w → (execOp ρ o).run P w = .ok (.value v) w := by
    intro ρ w v h
    simp [execOp, ho, resolve, invoke, builtin, h]
  unfold evMin at he
  split at he <;> cases he
  rename_i k a k' b hx hy
  refine OpR.pure fun β Φ ρ w hg => ⟨_, hex ρ w (.int k (min a b)) ?_, V.mk_i _ _⟩
  rw [(hx ▸ hg x : V β Φ (.u (.i k a)) (ρ x)).inv_i, (hy ▸ hg y : V β Φ (.u (.i k' b)) (ρ y)).inv_i]
  have : (if b < a then b else a) = min a b := by omega
  simp [Builtin.min_, Builtin.min2, this]

/-- a part of a row, cleared -/
def evClear (P : Program) (σ : Nat → SObj) (t : TypeId) (x : SV) : Ev :=
  match tiOf P t with
  | some ti => match ti.kind, x with
    | .slice e, .sl n sz lo hi => match σ n, tiOf P e with
      | .row T s els, some eti => .ok (s = eti.size ∧ sz = s ∧ hi ≤ els.length ∧ 0 < eti.size ∧ eti.zero.length = eti.size ∧ eti.zero.all PV.one = true) [(n, .row T s els)] (.tup [])
          [(n, .row T s (els.take lo ++ List.replicate (hi - lo) eti.zero ++ els.drop hi))]
      | _, _ => .bad
    | _, _ => .bad
  | none => .bad

theorem zeroCells_get {z : Array Value} {n : Nat} : ∀ k u, (Builtin.zeroCells z n)[k]? = some u → z[k % z.size]? = some u := by
  intro k u h
  unfold Builtin.zeroCells at h
  have hk := (Array.getElem?_eq_some_iff.1 h).1
  rw [Array.size_map, Array.size_range] at hk
  rw [Array.getElem?_map, Array.getElem?_range, if_pos hk] at h
  have hz : 0 < z.size := by
    rcases Nat.eq_zero_or_pos z.size with h0 | h0
    · rw [h0, Nat.mul_zero] at hk; omega
    · exact h0
  have hm : k % z.size < z.size := Nat.mod_lt _ hz
  simp only [Option.map_some, Option.some.injEq] at h
  rw [Array.getElem?_eq_getElem hm, ← h]
  simp [hm]

theorem op_clear {P : Program} {o : Oper} {g : Operand → SV} {t : TypeId} {x : Operand} (ho : o.op = .call { callee := .builtin .clear, args := #[x], argTypes := #[t] }) {σf : Nat → SObj} {ob : Prop} {rd : List (Nat × SObj)} {r : SV} {wr : List (Nat × SObj)}
    (he : evClear P σf t (g x) = .ok ob rd r wr) (hob : ob) : OpR P o g rd r wr := by
  have hex : ∀ (ρ : Operand → Value) (w w' : World) (v : Value), (Builtin.clear_ #[t] o.type #[ρ x]).run P w = .ok v w' → (execOp ρ o).run P w = .ok (.value v) w' := by
    intro ρ w w' v h
    simp [execOp, ho, resolve, invoke, builtin, h]
  unfold evClear at he
  split at he <;> try cases he
  rename_i ti ht
  split at he <;> try cases he
  rename_i e n sz lo top hk hx
  have hu := slice_of ht hk
  split at he <;> cases he
  rename_i T s els eti hσ het
  obtain ⟨rfl, rfl, q1, q2, q3, q4⟩ := hob
  obtain ⟨i, d, z, hi1, hi2, hi3, hi4, hi5, hi6, hi7, hi8⟩ := tiOf_inv het
  intro w0 ω0 β Φ ω σ w ρ hR hg hrd
  have hn := hrd n (.row T eti.size els) (by simp)
  obtain ⟨v, hβ, hO⟩ := hR.at_ hn
  obtain ⟨a, a', l, c, hβ', hv, p1, p2, p3⟩ := (hx ▸ hg x : V β Φ (.sl n eti.size lo top) (ρ x)).inv_sl
  rw [hβ] at hβ'
  obtain rfl := Option.some.inj hβ'
  have hzl : z.cells.size = eti.size := by have := (pvs_ok (Φ := Φ) hi4).1; simp at this; omega
  by_cases h0 : top - lo = 0
  · have htl : top = lo := by omega
    subst htl
    have hsame : σ.set n (.row T eti.size (els.take top ++ List.replicate (top - top) eti.zero ++ els.drop top)) = σ := by
      rw [Nat.sub_self, List.replicate_zero, List.append_nil, List.take_append_drop]
      obtain ⟨hlt, he⟩ := List.getElem?_eq_some_iff.1 hn
      rw [← he]; exact List.set_getElem_self hlt
    refine ⟨_, .tuple #[], w, β, Φ, ω, hex ρ w w _ ?_, .inl rfl, BExt.refl _, rfl, Fz.le_refl _, .tup [] [] rfl (by simp), ?_⟩
    · rw [hv, h0]
      simp [Builtin.clear_, run_underlying hu]
    · simp only [setAll]
      rw [hsame]; exact hR
  · rcases hO with ⟨ax, hvv, rfl⟩ | ⟨b, cap, cs, hvv, hω, hh, hcs, hcl, hm, hse, hj⟩
    · simp only [List.length_nil] at q1; omega
    cases hvv
    have hlt : lo < c := by omega
    obtain rfl := p3 hlt
    have ea : (⟨b, 0, none⟩ : Addr).add (lo * eti.size) = ⟨b, lo * eti.size, none⟩ := by rw [Addr.add_lit, Nat.zero_add]
    rw [ea] at hv
    let news : List Value := (Builtin.zeroCells z.cells (top - lo)).toList
    have hnl : news.length = (top - lo) * eti.size := by
      show (Builtin.zeroCells z.cells (top - lo)).toList.length = _
      rw [Array.length_toList, size_zeroCells, hzl]
    have hlm : lo * eti.size + (top - lo) * eti.size = top * eti.size := by rw [← Nat.add_mul]; congr 1; omega
    have htm : top * eti.size ≤ c * eti.size := Nat.mul_le_mul_right _ (by omega)
    have hz : ∀ k u, news[k]? = some u → z.cells[k % eti.size]? = some u := fun k u h => by
      have := zeroCells_get k u (by rw [← Array.getElem?_toList]; exact h)
      rwa [hzl] at this
    have hzv : ∀ (k : Nat) p u, eti.zero[k]? = some p → z.cells[k]? = some u → VP Φ p u := fun k p u h1 h2 => (pvs_ok hi4).2 k p u h1 (by rw [Array.getElem?_toList]; exact h2)
    have hone : ∀ u ∈ news, u.oneCell' = true := by
      intro u hu
      obtain ⟨k, hk⟩ := List.getElem?_of_mem hu
      have h2 := hz k u hk
      have hkl : k % eti.size < eti.zero.length := by rw [q3]; exact Nat.mod_lt _ q2
      have h1 : eti.zero[k % eti.size]? = some eti.zero[k % eti.size] := List.getElem?_eq_getElem hkl
      exact (hzv _ _ _ h1 h2).one (List.all_eq_true.1 q4 _ (List.getElem_mem hkl))
    have hst := run_storeCells_at (P := P) b (lo * eti.size) T news 0 cs w hh (by rw [Nat.add_zero, hnl, hlm, hcs]; exact htm) hone
    have hlen2 : (els.take lo ++ List.replicate (top - lo) eti.zero ++ els.drop top).length = els.length := by simp; omega
    refine ⟨_, .tuple #[], _, β, Φ, ω, hex ρ w (w.setRow b (cs.toList.take (lo * eti.size + 0) ++ news ++ cs.toList.drop (lo * eti.size + 0 + news.length)).toArray) _ ?_, .inl rfl, BExt.refl _, rfl, Fz.le_refl _, .tup [] [] rfl (by simp), ?_⟩
    · rw [hv]
      obtain ⟨k, hk'⟩ : ∃ k, top - lo = k + 1 := ⟨top - lo - 1, by omega⟩
      have hzero : (zeroValue e).run P w = .ok z w := by simp [zeroValue, typeInfo, hi1, hi3]
      have hst' : (storeCells ⟨b, lo * eti.size, none⟩ (Builtin.zeroCells z.cells (k + 1)).toList).run P w = .ok () (w.setRow b (cs.toList.take (lo * eti.size + 0) ++ news ++ cs.toList.drop (lo * eti.size + 0 + news.length)).toArray) := by
        rw [← hk']
        simp only [Nat.add_zero] at hst ⊢
        exact hst
      rw [hk']
      simp [Builtin.clear_, run_underlying hu, hzero, hst']
    · simp only [setAll]
      refine hR.turn hn hβ hω rfl rfl rfl (by simp) (fun k hk => setRow_other w b k _ hk) ?_
      refine .inr ⟨b, c, _, by rw [hlen2], hω, setRow_heap w b cs _ T (0, 0) hh, ?_, by rw [hlen2]; exact hcl, hm, fun x hx => ?_, fun i' x j p u h1 h2 h3 => ?_⟩
      · simp only [List.size_toArray, List.length_append, List.length_take, List.length_drop, Array.length_toList]; omega
      · rcases List.mem_append.1 hx with h | h
        · rcases List.mem_append.1 h with h | h
          · exact hse x (List.mem_of_mem_take h)
          · rw [List.eq_of_mem_replicate h]; exact q3
        · exact hse x (List.mem_of_mem_drop h)
      · have hjl := (List.getElem?_eq_some_iff.1 h2).1
        have hil := (List.getElem?_eq_some_iff.1 h1).1
        have hxs : x.length = eti.size := by
          rcases List.mem_append.1 (List.mem_of_getElem? h1) with h | h
          · rcases List.mem_append.1 h with h | h
            · exact hse x (List.mem_of_mem_take h)
            · rw [List.eq_of_mem_replicate h]; exact q3
          · exact hse x (List.mem_of_mem_drop h)
        rw [hxs] at hjl
        have htl : (els.take lo).length = lo := by simp; omega
        have hcut : (cs.toList.take (lo * eti.size + 0)).length = lo * eti.size := by
          have := Nat.mul_le_mul_right eti.size (show lo ≤ c by omega)
          simp; rw [hcs]; omega
        have h3' : (cs.toList.take (lo * eti.size + 0) ++ news ++ cs.toList.drop (lo * eti.size + 0 + news.length))[i' * eti.size + j]? = some u := by simpa using h3
        by_cases hc1 : i' < lo
        · have hm1 := mul_lt_of hc1 hjl
          rw [List.append_assoc, List.getElem?_append_left (by omega)] at h1
          rw [List.getElem?_take, if_pos hc1] at h1
          rw [List.append_assoc, List.getElem?_append_left (by omega), List.getElem?_take, if_pos (by omega)] at h3'
          exact hj i' x j p u h1 h2 (by simpa using h3')
        · by_cases hc2 : i' < top
          · have hm2 := mul_lt_of (show i' - lo < top - lo by omega) hjl
            have e1 : i' * eti.size = lo * eti.size + (i' - lo) * eti.size := by rw [← Nat.add_mul]; congr 1; omega
            rw [List.append_assoc, List.getElem?_append_right (by omega), List.getElem?_append_left (by simp; omega), htl] at h1
            rw [List.append_assoc, List.getElem?_append_right (by omega), List.getElem?_append_left (by omega), hcut] at h3'
            have hx := List.eq_of_mem_replicate (List.mem_of_getElem? h1)
            subst hx
            refine hzv j p u h2 ?_
            have := hz _ _ h3'
            rw [show i' * eti.size + j - lo * eti.size = j + eti.size * (i' - lo) by rw [Nat.mul_comm eti.size]; omega, Nat.add_mul_mod_self_left, Nat.mod_eq_of_lt hjl] at this
            exact this
          · have e1 : i' * eti.size = top * eti.size + (i' - top) * eti.size := by rw [← Nat.add_mul]; congr 1; omega
            have hl1 : (els.take lo ++ List.replicate (top - lo) eti.zero).length = top := by rw [List.length_append, htl, List.length_replicate]; omega
            rw [List.getElem?_append_right (by omega), hl1, List.getElem?_drop] at h1
            rw [List.getElem?_append_right (by rw [List.length_append, hcut, hnl]; omega), List.length_append, hcut, List.getElem?_drop] at h3'
            refine hj i' x j p u ?_ h2 ?_
            · rw [← h1]; congr 1; omega
            · rw [← Array.getElem?_toList, ← h3']; congr 1; omega

def evOp (P : Program) (σ : Nat → SObj) (N : Nat) (o : Oper) (g : Operand → SV) : Ev :=
  match o.op with
  | .move x => .ok True [] (g x) []
  | .assign x => .ok True [] (g x) []
  | .pick c a b => match g c with
    | .u (.b t) => evPick t (g a) (g b)
    | _ => .bad
  | .alloc t => match tiOf P t with
    | some ti => .ok True [(N, .unborn)] (.p N 0) [(N, .cells (ti.zero.map .u))]
    | none => .bad
  | .box _ x => .ok ((g x).cells.all SV.one = true) [(N, .unborn)] (.p N 0) [(N, .cells (g x).cells)]
  | .build t parts => evBuild P t (parts.toList.map fun p => (p.1, g p.2))
  | .buildSlice t n parts => evBuildSlice P t n (parts.toList.map fun p => (p.1, g p.2))
  | .load t x => match tiOf P t with
    | some ti => match evLoad σ ti (g x) with
      | .ok ob rd r wr => .ok (ob ∧ 0 < ti.size) rd r wr
      | .bad => .bad
    | none => .bad
  | .store t x y => match tiOf P t with
    | some ti => evStore σ ti (g x) (g y)
    | none => .bad
  | .nilCheck x => evNil (g x)
  | .binOp op t x y _ => evBin P t op (g x) (g y)
  | .unOp .not _ x => match g x with
    | .u (.b b) => .ok True [] (.u (.b (!b))) []
    | _ => .bad
  | .convert s d x => evConvert P σ s d (g x)
  | .makeFunc fn f c => match evFunc fn (f.toList.map g) (c.toList.map g) with
    | some r => .ok True [] r []
    | none => .bad
  | .makeMap _ none => .ok True [(N, .unborn)] (.h N) [(N, .map [])]
  | .slice t x lo hi mx => evSlice P σ t (g x) (lo.map g) (hi.map g) (mx.map g)
  | .fieldAddr t x f => evFieldAddr P t f (g x)
  | .field t x f => evField P t f (g x)
  | .indexAddr t x i => evIndexAddr P σ t (g x) (g i)
  | .index t x i => evIndex P t (g x) (g i)
  | .lookup t m k ok => evLookup P σ t (g m) (g k) ok
  | .mapUpdate t m k x => evMapUpdate P σ t (g m) (g k) (g x)
  | .insert t m k x => evMapUpdate P σ t (g m) (g k) (g x)
  | .extract x i => match (g x).tupAt i with
    | some r => .ok True [] r []
    | none => .bad
  | .call c => match c.callee, c.args.toList, c.argTypes.toList with
    | .builtin .len, [x], [t] => evLen P σ t (g x)
    | .builtin .append, [x, y], [t, t2] => evAppend P σ N t t2 (g x) (g y)
    | .builtin .max, [x, y], _ => evMax (g x) (g y)
    | .builtin .min, [x, y], _ => evMin (g x) (g y)
    | .builtin .clear, [x], [t] => evClear P σ t (g x)
    | _, _, _ => .bad
  | _ => .bad

theorem op_pick {P : Program} {o : Oper} {g : Operand → SV} {c x y : Operand} {t : Bool} (ho : o.op = .pick c x y) (hc : g c = .u (.b t)) {ob : Prop} {rd : List (Nat × SObj)} {r : SV} {wr : List (Nat × SObj)}
    (he : evPick t (g x) (g y) = .ok ob rd r wr) (hob : ob) : OpR P o g rd r wr := by
  have key : ∀ r', (∀ β Φ u v, V β Φ (g x) u → V β Φ (g y) v → V β Φ r' (if t then u else v)) → OpR P o g [] r' [] := by
    intro r' hr
    refine OpR.pure fun β Φ ρ w hg => ⟨if t then ρ x else ρ y, ?_, hr β Φ _ _ (hg x) (hg y)⟩
    have hv := (hc ▸ hg c : V β Φ (.u (.b t)) (ρ c)).inv_b
    simp only [execOp, ho, hv, asBool, Sem.run_bind, Sem.run_pure, Result.andThen_ok]
  unfold evPick at he
  split at he <;> cases he
  · rename_i p q e1 e2
    refine key _ fun β Φ u v hu hv => ?_
    rw [e1] at hu; rw [e2] at hv
    rw [hu.inv_b, hv.inv_b]
    cases t <;> exact V.mk_b _
  · rename_i p k d q e1 e2
    refine key _ fun β Φ u v hu hv => ?_
    rw [e1] at hu; rw [e2] at hv
    rw [hu.inv_b]
    cases t with
    | true => exact V.mk_b _
    | false =>
      cases hv with | gd _ _ _ _ hv _ =>
      rw [(hv (hob rfl)).inv_b]
      exact V.mk_b _
  · rename_i k d p q e1 e2
    refine key _ fun β Φ u v hu hv => ?_
    rw [e1] at hu; rw [e2] at hv
    rw [hv.inv_b]
    cases t with
    | false => exact V.mk_b _
    | true =>
      cases hu with | gd _ _ _ _ hu _ =>
      rw [(hu (hob rfl)).inv_b]
      exact V.mk_b _
  · refine key _ fun β Φ u v hu hv => ?_
    cases t
    · exact hv
    · exact hu

theorem evOp_ok {P : Program} {o : Oper} {g : Operand → SV} {σf : Nat → SObj} {N : Nat} {ob : Prop} {rd : List (Nat × SObj)} {r : SV} {wr : List (Nat × SObj)} (he : evOp P σf N o g = .ok ob rd r wr) (hob : ob) : OpR P o g rd r wr := by
  unfold evOp at he
  split at he
  · rename_i x ho; cases he; exact op_move (.inl ho)
  · rename_i x ho; cases he; exact op_move (.inr ho)
  · rename_i c x y ho
    split at he <;> try cases he
    rename_i t hc
    exact op_pick ho hc he hob
  · rename_i t ho
    split at he <;> cases he
    rename_i ti ht
    exact op_alloc ho ht N
  · rename_i t x ho; cases he; exact op_box ho N hob
  · rename_i t parts ho; exact op_build ho he
  · rename_i t n parts ho; exact op_buildSlice ho he hob
  · rename_i t x ho
    split at he <;> try cases he
    rename_i ti ht
    split at he <;> cases he
    rename_i ob' hl
    exact op_load ho ht hl hob.1 hob.2
  · rename_i t x y ho
    split at he <;> try cases he
    rename_i ti ht
    exact op_store ho ht he hob
  · rename_i x ho; exact op_nilCheck ho he
  · rename_i op t x y t' ho; exact op_bin ho he hob
  · rename_i t x ho
    split at he <;> cases he
    rename_i b hx
    exact op_not ho hx
  · rename_i s d x ho; exact op_convert ho he hob
  · rename_i fn f c ho
    split at he <;> cases he
    rename_i hr
    exact op_makeFunc ho hr
  · rename_i t ho; cases he; exact op_makeMap ho N
  · rename_i t x lo hi mx ho; exact op_slice ho he hob
  · rename_i t x f ho; exact op_fieldAddr ho he hob
  · rename_i t x f ho; exact op_field ho he hob
  · rename_i t x i ho; exact op_indexAddr ho he hob
  · rename_i t x i ho; exact op_index ho he hob
  · rename_i t m k ok ho; exact op_lookup ho he hob
  · rename_i t m k x ho; exact op_mapUpdate (.inl ho) he hob
  · rename_i t m k x ho; exact op_mapUpdate (.inr ho) he hob
  · rename_i x i ho
    split at he <;> cases he
    rename_i hr
    exact op_extract ho hr
  · rename_i c ho
    obtain ⟨callee, args, argTypes⟩ := c
    simp only at he
    split at he <;> try cases he
    · rename_i x t h2 h3
      have e1 : args = #[x] := by apply Array.ext'; simpa using h2
      have e2 : argTypes = #[t] := by apply Array.ext'; simpa using h3
      subst e1 e2
      exact op_len ho he
    · rename_i x y t t2 h2 h3
      have e1 : args = #[x, y] := by apply Array.ext'; simpa using h2
      have e2 : argTypes = #[t, t2] := by apply Array.ext'; simpa using h3
      subst e1 e2
      exact op_append ho he hob
    · rename_i x y h2
      have e1 : args = #[x, y] := by apply Array.ext'; simpa using h2
      subst e1
      exact op_max ho he
    · rename_i x y h2
      have e1 : args = #[x, y] := by apply Array.ext'; simpa using h2
      subst e1
      exact op_min ho he
    · rename_i x t h2 h3
      have e1 : args = #[x] := by apply Array.ext'; simpa using h2
      have e2 : argTypes = #[t] := by apply Array.ext'; simpa using h3
      subst e1 e2
      exact op_clear ho he hob
  · cases he

/-! ### states -/
structure Cx where
  w0 : World
  ω0 : Nat → Nat
  β0 : List Value
  Φ0 : Fz
  nt : Nat

def St (c : Cx) (e : Env) (σ : List SObj) (a : Act) (w : World) : Prop :=
  ∃ β Φ ω, BExt c.β0 β ∧ c.Φ0.le Φ ∧ a.defers = [] ∧ a.tmps.size = c.nt ∧ EnvOK β Φ e a.tmps ∧ Rep c.w0 c.ω0 β σ Φ ω w

theorem size_put (a : Act) (d : Option Tmp) (v : Value) : (a.put d v).tmps.size = a.tmps.size := by cases d <;> simp [Act.put]
theorem defers_put (a : Act) (d : Option Tmp) (v : Value) : (a.put d v).defers = a.defers := by cases d <;> rfl

/-! ### calls -/
def enterable (P : Program) (f : FuncId) : Bool :=
  match P.funcs[f]? with
  | some fn => fn.name != "runtime.NumGoroutine" && fn.body.isSome
  | none => false

/-- in memory σ the call answers so -/
def CallT (P : Program) (f : FuncId) (args : List SV) (σ : List SObj) (K : SV → List SObj → Prop) : Prop :=
  ∀ (w0 : World) (ω0 : Nat → Nat) (β : List Value) (Φ : Fz) (ω : Nat → Nat) (w : World) (vs : List Value), Rep w0 ω0 β σ Φ ω w → vs.length = args.length →
    (∀ (j : Nat) x v, args[j]? = some x → vs[j]? = some v → V β Φ x v) →
    Calls P f vs.toArray w fun e w' => ∃ r v β' σ' Φ' ω', e = .returned v ∧ BExt β β' ∧ Φ.le Φ' ∧ V β' Φ' r v ∧ Rep w0 ω0 β' σ' Φ' ω' w' ∧ σ.length ≤ σ'.length ∧ K r σ'

@[congr] theorem callT_congr {P : Program} {f : FuncId} {as as' : List SV} {σ σ' : List SObj} {K : SV → List SObj → Prop} (h1 : as = as') (h2 : σ = σ') : CallT P f as σ K = CallT P f as' σ' K := by rw [h1, h2]

theorem CallT.mono {P : Program} {f : FuncId} {args : List SV} {σ : List SObj} {K K' : SV → List SObj → Prop} (h : CallT P f args σ K) (hk : ∀ r σ', K r σ' → K' r σ') : CallT P f args σ K' := by
  intro w0 ω0 β Φ ω w vs hR hl hv
  refine (h w0 ω0 β Φ ω w vs hR hl hv).mono fun e w' ⟨r, v, β', σ', Φ', ω', h1, h2, h3, h4, h5, h7, h6⟩ => ⟨r, v, β', σ', Φ', ω', h1, h2, h3, h4, h5, h7, hk _ _ h6⟩

def callOf (o : Oper) (g : Operand → SV) : Option (FuncId × List SV) :=
  match o.op with
  | .call c => match c.callee with
    | .value f => match g f with
      | .u (.fn id caps) => some (id, c.args.toList.map g ++ caps.map .u)
      | .fn id caps => some (id, c.args.toList.map g ++ caps)
      | _ => none
    | _ => none
  | _ => none

theorem run_callFunc {P : Program} {f : FuncId} (h : enterable P f = true) (args : Array Value) (w : World) : (callFunc f args).run P w = .ok (.enter f args) w := by
  unfold enterable at h
  split at h <;> try cases h
  rename_i fn hf
  simp only [Bool.and_eq_true, bne_iff_ne] at h
  have h1 : (fn.name == "runtime.NumGoroutine") = false := by simpa using h.1
  have h2 : fn.body.isNone = false := by cases hb : fn.body <;> simp [hb] at h ⊢
  simp only [callFunc, Sem.run_bind, run_program, Result.andThen_ok, hf, h1, h2, Bool.false_eq_true, if_false, Sem.run_pure]

theorem call_enter {P : Program} {o : Oper} {g : Operand → SV} {f : FuncId} {as : List SV} (h : callOf o g = some (f, as)) (hen : enterable P f = true) {β : List Value} {Φ : Fz} {ρ : Operand → Value} (hg : ∀ x, V β Φ (g x) (ρ x)) :
    ∃ vs : List Value, (∀ w, (execOp ρ o).run P w = .ok (.enter f vs.toArray) w) ∧ vs.length = as.length ∧ ∀ (j : Nat) x v, as[j]? = some x → vs[j]? = some v → V β Φ x v := by
  unfold callOf at h
  split at h <;> try cases h
  rename_i c ho
  split at h <;> try cases h
  rename_i fo hc
  obtain ⟨callee, args, argTypes⟩ := c
  simp only at hc h
  subst hc
  have hargs : ∀ (j : Nat) x v, (args.toList.map g)[j]? = some x → (args.toList.map ρ)[j]? = some v → V β Φ x v := by
    intro j x v hx hv
    rw [List.getElem?_map] at hx hv
    obtain ⟨p, hp, rfl⟩ := Option.map_eq_some_iff.1 hx
    rw [hp] at hv; cases hv
    exact hg p
  have fin : ∀ (us : List Value) (caps : List SV), ρ fo = .func (.func f) #[] us.toArray → us.length = caps.length → (∀ (j : Nat) x (v : Value), caps[j]? = some x → us[j]? = some v → V β Φ x v) → as = args.toList.map g ++ caps →
      ∃ vs : List Value, (∀ w, (execOp ρ o).run P w = .ok (.enter f vs.toArray) w) ∧ vs.length = as.length ∧ ∀ (j : Nat) x v, as[j]? = some x → vs[j]? = some v → V β Φ x v := by
    intro us caps h1 h2 h3 h4
    subst h4
    refine ⟨args.toList.map ρ ++ us, fun w => ?_, by simp [h2], fun j x v hx hv => ?_⟩
    · simp only [execOp, ho, resolve, h1, Deferred.ofValue, Sem.run_bind, Sem.run_pure, Result.andThen_ok, invoke]
      have : #[] ++ args.map ρ ++ us.toArray = (args.toList.map ρ ++ us).toArray := by apply Array.ext'; simp
      rw [this]
      exact run_callFunc hen _ w
    · by_cases hj : j < (args.toList.map g).length
      · rw [List.getElem?_append_left hj] at hx
        rw [List.getElem?_append_left (by simpa using hj)] at hv
        exact hargs j x v hx hv
      · rw [List.getElem?_append_right (by omega)] at hx
        rw [List.getElem?_append_right (by simp at hj ⊢; omega)] at hv
        simp only [List.length_map] at hx hv
        exact h3 _ x v hx hv
  have hf := hg fo
  split at h <;> cases h
  · rename_i caps hgf
    rw [hgf] at hf
    obtain ⟨us, hu, hl, hj⟩ := hf.inv_ufn
    refine fin us (caps.map .u) hu (by simpa using hl) (fun j x v hx hv => ?_) rfl
    rw [List.getElem?_map] at hx
    obtain ⟨p, hp, rfl⟩ := Option.map_eq_some_iff.1 hx
    exact .u _ _ (hj j p v hp hv)
  · rename_i caps hgf
    rw [hgf] at hf
    obtain ⟨us, hu, hl, hj⟩ := hf.inv_fn
    exact fin us caps hu hl hj rfl

/-! ### what an operation looks at -/
theorem map_pair_congr {g g' : Operand → SV} {l : List (Nat × Operand)} (h : ∀ x ∈ l.map (·.2), g x = g' x) : (l.map fun p => (p.1, g p.2)) = l.map fun p => (p.1, g' p.2) :=
  List.map_congr_left fun p hp => by rw [h p.2 (List.mem_map.2 ⟨p, hp, rfl⟩)]

theorem opt_congr {g g' : Operand → SV} {x : Option Operand} (h : ∀ y ∈ x.toArray.toList, g y = g' y) : x.map g = x.map g' := by
  cases x with
  | none => rfl
  | some y => simp [h y (by simp)]

theorem evOp_congr {P : Program} {σ : Nat → SObj} {N : Nat} {o : Oper} {g g' : Operand → SV} (h : ∀ x ∈ o.op.operands.toList, g x = g' x) : evOp P σ N o g = evOp P σ N o g' := by
  unfold evOp
  cases ho : o.op <;> rw [ho] at h <;> simp only [Op.operands] at h ⊢ <;> try rfl
  case move x => rw [h x (by simp)]
  case assign x => rw [h x (by simp)]
  case pick c a b => rw [h c (by simp), h a (by simp), h b (by simp)]
  case box e x => rw [h x (by simp)]
  case build t ps => rw [map_pair_congr (by simpa using h)]
  case buildSlice t n ps => rw [map_pair_congr (by simpa using h)]
  case load t x => rw [h x (by simp)]
  case store t x y => rw [h x (by simp), h y (by simp)]
  case nilCheck x => rw [h x (by simp)]
  case binOp op t x y t' => rw [h x (by simp), h y (by simp)]
  case unOp u t x => cases u <;> simp only <;> rw [h x (by simp)]
  case convert s d x => rw [h x (by simp)]
  case makeFunc fn f c =>
    rw [List.map_congr_left (l := f.toList) (g := g') (fun x hx => h x (by simp at hx ⊢; exact .inl hx)), List.map_congr_left (l := c.toList) (g := g') (fun x hx => h x (by simp at hx ⊢; exact .inr hx))]
  case makeMap t rs => cases rs <;> rfl
  case slice t x lo hi mx =>
    rw [h x (by simp), opt_congr (x := lo) fun y hy => h y (by simp at hy ⊢; exact .inr (.inl hy)), opt_congr (x := hi) fun y hy => h y (by simp at hy ⊢; exact .inr (.inr (.inl hy))), opt_congr (x := mx) fun y hy => h y (by simp at hy ⊢; exact .inr (.inr (.inr hy)))]
  case fieldAddr t x f => rw [h x (by simp)]
  case field t x f => rw [h x (by simp)]
  case indexAddr t x i => rw [h x (by simp), h i (by simp)]
  case index t x i => rw [h x (by simp), h i (by simp)]
  case lookup t m k ok => rw [h m (by simp), h k (by simp)]
  case mapUpdate t m k x => rw [h m (by simp), h k (by simp), h x (by simp)]
  case insert t m k x => rw [h m (by simp), h k (by simp), h x (by simp)]
  case extract x i => rw [h x (by simp)]
  case call c =>
    obtain ⟨callee, args, argTypes⟩ := c
    have ha : ∀ x ∈ args.toList, g x = g' x := fun x hx => h x (by simp only [Call.operands]; simp at hx ⊢; exact .inr hx)
    simp only
    split
    · rename_i x t h1 h2; rw [ha x (by rw [h1]; simp)]
    · rename_i x y t t2 h1 h2; rw [ha x (by rw [h1]; simp), ha y (by rw [h1]; simp)]
    · rename_i x y h1; rw [ha x (by rw [h1]; simp), ha y (by rw [h1]; simp)]
    · rename_i x y h1; rw [ha x (by rw [h1]; simp), ha y (by rw [h1]; simp)]
    · rename_i x t h1 h2; rw [ha x (by rw [h1]; simp)]
    · rfl

theorem callOf_congr {o : Oper} {g g' : Operand → SV} (h : ∀ x ∈ o.op.operands.toList, g x = g' x) : callOf o g = callOf o g' := by
  unfold callOf
  cases ho : o.op <;> try rfl
  rename_i c
  rw [ho] at h
  simp only [Op.operands] at h
  obtain ⟨callee, args, argTypes⟩ := c
  simp only
  cases callee <;> try rfl
  rename_i f
  simp only
  rw [h f (by simp [Call.operands]), List.map_congr_left (l := args.toList) (g := g') (fun x hx => h x (by simp [Call.operands] at hx ⊢; exact .inr hx))]

/-! ### guards -/
def sameK : List (Nat × Bool) → List (Nat × Bool) → Bool
  | [], [] => true
  | (a, x) :: r, (b, y) :: s => if a = b then (match x, y with | true, true => sameK r s | false, false => sameK r s | _, _ => false) else false
  | _, _ => false

def isSuf (k : List (Nat × Bool)) : List (Nat × Bool) → Bool
  | [] => sameK k []
  | x :: r => if sameK k (x :: r) then true else isSuf k r

def strip (key : List (Nat × Bool)) (x : SV) : SV :=
  match x with
  | .gd k c y => if isSuf k key then y else .gd k c y
  | x => x

/-- what is owed where a guarded value is taken under a guard -/
def gdOb (key : List (Nat × Bool)) (c : Bool) (x : SV) : Prop :=
  match x with
  | .gd k d _ => if isSuf k key then (c = true → d = true) else True
  | _ => True

def gdObs (key : List (Nat × Bool)) (c : Bool) (g : Operand → SV) : List Operand → Prop
  | [] => True
  | x :: r => gdOb key c (g x) ∧ gdObs key c g r

theorem gdObs_mem {key : List (Nat × Bool)} {c : Bool} {g : Operand → SV} : ∀ {l : List Operand}, gdObs key c g l → ∀ x ∈ l, gdOb key c (g x)
  | y :: l, h, x, hx => by
    rcases List.mem_cons.1 hx with rfl | hx
    · exact h.1
    · exact gdObs_mem h.2 x hx

open Classical in
theorem strip_rel {β : List Value} {Φ : Fz} {key : List (Nat × Bool)} {g : Operand → SV} {ρ : Operand → Value} {l : List Operand} (h : gdObs key true g l) (hg : ∀ x, V β Φ (g x) (ρ x)) :
    ∃ g' : Operand → SV, (∀ x ∈ l, g' x = strip key (g x)) ∧ ∀ x, V β Φ (g' x) (ρ x) := by
  refine ⟨fun x => if gdOb key true (g x) then strip key (g x) else g x, fun x hx => if_pos (gdObs_mem h x hx), fun x => ?_⟩
  simp only
  split
  · rename_i hob
    have hv := hg x
    unfold strip
    unfold gdOb at hob
    split
    · rename_i k d y he
      rw [he] at hob hv
      simp only at hob
      split
      · rename_i hs
        rw [if_pos hs] at hob
        cases hv with | gd _ _ _ _ hv _ => exact hv (by simpa using hob)
      · exact hv
    · exact hv
  · exact hg x

/-- the key and the truth of a guard -/
def gdOf (x : SV) (s : Nat) (want : Bool) : Option (List (Nat × Bool) × Bool) :=
  match x with
  | .u (.b t) => some ([(s, want)], t == want)
  | .gd k c (.u (.b t)) => some ((s, want) :: k, c && (t == want))
  | _ => none

end Go.Nm
