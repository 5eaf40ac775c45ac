/- Loads, stores, new variables: what they do, by names. -/
import Derived.Test.YteoihmgigmiajaaNm3
import Derived.Laws.Cells
import Derived.Laws.Rows
import Derived.Laws.CopyRow
set_option linter.all false
set_option linter.unusedSimpArgs false
set_option linter.unusedVariables false
namespace Go.Nm

theorem tiOf_inv {P : Program} {t : TypeId} {ti : TI} (h : tiOf P t = some ti) : ∃ i d z, P.info? t = some i ∧ P.underlying t = some d ∧ i.zero = some z ∧ pvs z.cells.toList = some ti.zero ∧ i.size = ti.size ∧ i.bytes = ti.bytes ∧ tkOf d = ti.kind ∧ isAggV z = ti.zagg := by
  unfold tiOf at h
  split at h
  · rename_i i d h1 h2
    split at h
    · rename_i z hz
      split at h
      · rename_i zc hzc
        cases h
        exact ⟨i, d, z, h1, h2, hz, hzc, rfl, rfl, rfl, rfl⟩
      · cases h
    · cases h
  · cases h

section
variable {P : Program} {t : TypeId} {ti : TI}
theorem run_sizeOf (h : tiOf P t = some ti) (w : World) : (sizeOf t).run P w = .ok ti.size w := by
  obtain ⟨i, d, z, h1, _, _, _, h5, _⟩ := tiOf_inv h
  simp [sizeOf, typeInfo, h1, h5]
theorem run_isAgg (h : tiOf P t = some ti) (w : World) : (isAgg t).run P w = .ok ti.kind.agg w := by
  obtain ⟨i, d, z, _, h2, _, _, _, _, h7, _⟩ := tiOf_inv h
  simp only [isAgg, Sem.run_bind, run_underlying h2, Result.andThen_ok]
  rw [← h7]
  cases d <;> rfl
theorem run_loadVar (h : tiOf P t = some ti) (a : Addr) (f : Nat → Value) (w : World) (h0 : 0 < ti.size) (hc : ∀ j, j < ti.size → w.cell? (a.add j) = some (f j)) :
    (loadVar t a).run P w = .ok (if ti.kind.agg then .agg ((List.range ti.size).map f).toArray else f 0) w := by
  simp only [loadVar, Sem.run_bind, run_isAgg h, Result.andThen_ok]
  cases hk : ti.kind.agg with
  | true =>
    simp only [if_true, Sem.run_bind, run_sizeOf h, Result.andThen_ok]
    rw [run_loadCells (P := P) w a ti.size f hc]
    simp
  | false =>
    have := hc 0 h0
    simp only [Addr.add_zero'] at this
    simp [this]
end

theorem add_add (a : Addr) (i j : Nat) : (a.add i).add j = a.add (i + j) := by
  unfold Addr.add
  by_cases hi : i = 0 <;> by_cases hj : j = 0 <;> simp [hi, hj, Nat.add_assoc]

theorem Fz.cell_of {w0 : World} {ω0 : Nat → Nat} {β : List Value} {σ : List SObj} {Φ : Fz} {ω : Nat → Nat} {w : World} (h : Rep w0 ω0 β σ Φ ω w) {a : Addr} {v : Value} (hc : Φ.cell a = some v) : w.cell? a = some v := by
  unfold Fz.cell at hc
  cases hb : Φ a.block with
  | none => simp [hb] at hc
  | some o =>
    have := (h.fz _ _ hb).2
    unfold World.cell?
    rw [this]
    rw [hb] at hc
    exact hc

/-- the cells behind an address, read -/
def CellsAt (w : World) (β : List Value) (Φ : Fz) (a : Addr) (cs : List SV) : Prop := ∀ (j : Nat) x, cs[j]? = some x → ∃ u, w.cell? (a.add j) = some u ∧ V β Φ x u

theorem load_cells {P : Program} {t : TypeId} {ti : TI} (h : tiOf P t = some ti) {w : World} {β : List Value} {Φ : Fz} {a : Addr} {cs : List SV} (hc : CellsAt w β Φ a cs) {off : Nat} (h0 : 0 < ti.size) (hl : off + ti.size ≤ cs.length) :
    ∃ v, (loadVar t (a.add off)).run P w = .ok v w ∧ V β Φ (rdCells ti cs off) v := by
  have hex : ∀ j, j < ti.size → ∃ u, w.cell? ((a.add off).add j) = some u ∧ V β Φ (cs.getD (off + j) .j) u := by
    intro j hj
    have hlt : off + j < cs.length := by omega
    obtain ⟨u, h1, h2⟩ := hc (off + j) _ (List.getElem?_eq_getElem hlt)
    refine ⟨u, by rw [add_add]; exact h1, ?_⟩
    rw [List.getD_eq_getElem?_getD, List.getElem?_eq_getElem hlt]
    exact h2
  have hch : ∃ f : Nat → Value, ∀ j, j < ti.size → w.cell? ((a.add off).add j) = some (f j) ∧ V β Φ (cs.getD (off + j) .j) (f j) :=
    ⟨fun j => if hj : j < ti.size then Classical.choose (hex j hj) else .bool false, fun j hj => by simp only [dif_pos hj]; exact Classical.choose_spec (hex j hj)⟩
  obtain ⟨f, hf⟩ := hch
  refine ⟨_, run_loadVar h (a.add off) f w h0 fun j hj => (hf j hj).1, ?_⟩
  unfold rdCells
  cases hk : ti.kind.agg with
  | true =>
    simp only [if_true]
    have hlen : ((cs.drop off).take ti.size).length = ti.size := by simp; omega
    have := V.ofList (β := β) (Φ := Φ) (cs := (cs.drop off).take ti.size) (f := f) fun j x hx => by
      have hlt : j < ti.size := by have := (List.getElem?_eq_some_iff.1 hx).1; omega
      have h2 := (hf j hlt).2
      rw [List.getElem?_take, if_pos hlt, List.getElem?_drop] at hx
      rw [List.getD_eq_getElem?_getD, hx] at h2
      exact h2
    rw [hlen] at this
    exact this
  | false =>
    simpa using (hf 0 h0).2

section
variable {w0 : World} {ω0 : Nat → Nat} {β : List Value} {σ : List SObj} {Φ : Fz} {ω : Nat → Nat} {w : World}

theorem cellsAt_fp {cs : List PV} {v : Value} (h : Rep w0 ω0 β σ Φ ω w) (hv : V β Φ (.u (.fp cs)) v) : ∃ a, v = .pointer (some a) ∧ CellsAt w β Φ a (cs.map .u) := by
  obtain ⟨a, f, rfl, h1, h2⟩ := hv.inv_fp
  refine ⟨a, rfl, fun j x hx => ?_⟩
  rw [List.getElem?_map] at hx
  obtain ⟨y, hy, rfl⟩ := Option.map_eq_some_iff.1 hx
  exact ⟨f j, Fz.cell_of h (h1 j y hy), .u _ _ (h2 j y hy)⟩

theorem cellsAt_p {n : Nat} {vs : List SV} (h : Rep w0 ω0 β σ Φ ω w) (hn : σ[n]? = some (.cells vs)) : ∃ b cs T, β[n]? = some (.pointer (some ⟨b, 0, none⟩)) ∧ ω b = n + 2 ∧ w.heap[b]? = some (.cells cs T (0, 0)) ∧ cs.size = vs.length ∧
    (∀ (j : Nat) x u, vs[j]? = some x → cs[j]? = some u → V β Φ x u) ∧ CellsAt w β Φ ⟨b, 0, none⟩ vs := by
  obtain ⟨v, hv, b, cs, T, rfl, hw, hh, hs, hj⟩ := h.at_ hn
  refine ⟨b, cs, T, hv, hw, hh, hs, hj, fun j x hx => ?_⟩
  have hlt := (List.getElem?_eq_some_iff.1 hx).1
  have hcs : cs[j]? = some (cs[j]'(by omega)) := Array.getElem?_eq_getElem (by omega)
  refine ⟨_, ?_, hj j x _ hx hcs⟩
  rw [Addr.add_lit, Nat.zero_add, cell_of_row w b j cs T (0, 0) hh, hcs]

theorem cellsAt_rp {n sz i : Nat} {T : TypeId} {els : List (List PV)} (h : Rep w0 ω0 β σ Φ ω w) (hn : σ[n]? = some (.row T sz els)) (hi : i < els.length) : ∃ b l c, β[n]? = some (.slice (some ⟨b, 0, none⟩) l c) ∧
    (els.getD i []).length = sz ∧ CellsAt w β Φ ⟨b, i * sz, none⟩ ((els.getD i []).map .u) := by
  obtain ⟨v, hv, hO⟩ := h.at_ hn
  rcases hO with ⟨_, _, rfl⟩ | ⟨b, cap, cs, rfl, hw, hh, hs, hl, hm, he, hj⟩
  · simp at hi
  · have hei : els[i]? = some (els[i]) := List.getElem?_eq_getElem hi
    have hg : els.getD i [] = els[i] := by rw [List.getD_eq_getElem?_getD, hei]; rfl
    have hlen : els[i].length = sz := he _ (List.getElem_mem hi)
    refine ⟨b, _, cap, hv, by rw [hg]; exact hlen, fun j x hx => ?_⟩
    rw [hg, List.getElem?_map] at hx
    obtain ⟨y, hy, rfl⟩ := Option.map_eq_some_iff.1 hx
    have hjl : j < sz := by have := (List.getElem?_eq_some_iff.1 hy).1; omega
    have hb : i * sz + j < cs.size := by
      rw [hs]
      have : (i + 1) * sz ≤ cap * sz := Nat.mul_le_mul_right _ (by omega)
      rw [Nat.succ_mul] at this; omega
    have hcs : cs[i * sz + j]? = some (cs[i * sz + j]) := Array.getElem?_eq_getElem hb
    refine ⟨_, ?_, .u _ _ (hj i _ j y _ hei hy hcs)⟩
    rw [Addr.add_lit, cell_of_row w b _ cs T (0, 0) hh, hcs]
end

theorem load_val {P : Program} {t : TypeId} {ti : TI} (ht : tiOf P t = some ti) {σf : Nat → SObj} {x : SV} {ob : Prop} {rd : List (Nat × SObj)} {r : SV} {wr : List (Nat × SObj)}
    (he : evLoad σf ti x = .ok ob rd r wr) (hob : ob) (h0 : 0 < ti.size) {w0 : World} {ω0 : Nat → Nat} {β : List Value} {Φ : Fz} {ω : Nat → Nat} {σ : List SObj} {w : World} (hR : Rep w0 ω0 β σ Φ ω w) {v : Value} (hv : V β Φ x v)
    (hrd : ∀ n ob, (n, ob) ∈ rd → σ[n]? = some ob) : wr = [] ∧ ∃ a u, v = .pointer (some a) ∧ (loadVar t a).run P w = .ok u w ∧ V β Φ r u := by
  unfold evLoad at he
  split at he
  · rename_i n off
    split at he
    · rename_i vs hσ
      cases he
      refine ⟨rfl, ?_⟩
      obtain ⟨b, cs, T, hβ, hw, hh, hs, hj, hc⟩ := cellsAt_p hR (hrd n (.cells vs) (by simp))
      obtain ⟨a, ha, hv⟩ := hv.inv_p
      rw [hβ] at ha; cases ha
      obtain ⟨u, h1, h2⟩ := load_cells ht hc h0 hob
      exact ⟨_, u, hv, h1, h2⟩
    · cases he
  · rename_i n sz i off
    split at he
    · rename_i T s els hσ
      cases he
      refine ⟨rfl, ?_⟩
      obtain ⟨rfl, hi, hl⟩ := hob
      obtain ⟨b, l, c, hβ, hlen, hc⟩ := cellsAt_rp hR (hrd n (.row T s els) (by simp)) hi
      obtain ⟨a, l', c', ha, hv⟩ := hv.inv_rp
      rw [hβ] at ha; cases ha
      obtain ⟨u, h1, h2⟩ := load_cells ht hc (off := off) h0 (by rw [List.length_map]; omega)
      refine ⟨_, u, hv, ?_, h2⟩
      rw [← h1, Addr.add_lit, Addr.add_lit, Nat.zero_add]
    · cases he
  · rename_i cs
    cases he
    refine ⟨rfl, ?_⟩
    obtain ⟨a, ha, hc⟩ := cellsAt_fp hR hv
    obtain ⟨u, h1, h2⟩ := load_cells ht hc (off := 0) h0 (by simpa using hob)
    exact ⟨a, u, ha, by rw [Addr.add_zero'] at h1; exact h1, h2⟩
  · cases he

theorem op_load {P : Program} {o : Oper} {g : Operand → SV} {t : TypeId} {x : Operand} {ti : TI} (ho : o.op = .load t x) (ht : tiOf P t = some ti) {σf : Nat → SObj} {ob : Prop} {rd : List (Nat × SObj)} {r : SV} {wr : List (Nat × SObj)}
    (he : evLoad σf ti (g x) = .ok ob rd r wr) (hob : ob) (h0 : 0 < ti.size) : OpR P o g rd r wr := by
  have hwr : wr = [] := by
    unfold evLoad at he
    split at he <;> first | (split at he <;> cases he <;> rfl) | (cases he; done) | (cases he; rfl)
  subst hwr
  refine OpR.read fun w0 ω0 β Φ ω σ w ρ hR hg hrd => ?_
  obtain ⟨_, a, u, h1, h2, h3⟩ := load_val ht he hob h0 hR (hg x) hrd
  refine ⟨u, ?_, h3⟩
  simp only [execOp, ho, Instr.loadAt, h1, Instr.sureAddr, Sem.run_bind, Sem.run_pure, Result.andThen_ok, h2]

/-! new objects -/
section
variable {w0 : World} {ω0 : Nat → Nat} {β : List Value} {σ : List SObj} {Φ : Fz} {ω : Nat → Nat} {w : World}

theorem Rep.unborn (h : Rep w0 ω0 β σ Φ ω w) {n : Nat} (hn : σ[n]? = some .unborn) : β[n]? = some (.bool false) := by
  obtain ⟨v, hv, hO⟩ := h.at_ hn
  rw [hv, show v = .bool false from hO]

/-- a new block, for a name kept free -/
theorem Rep.born (h : Rep w0 ω0 β σ Φ ω w) {n : Nat} (hn : σ[n]? = some .unborn) (o : Obj) (ob : SObj) (v : Value)
    (hob : ∀ (ω' : Nat → Nat) (β' : List Value), ω' w.heap.size = n + 2 → BExt β β' → O β' Φ (w.alloc o).heap ω' n ob v) :
    ∃ ω', BExt β (β.set n v) ∧ (β.set n v).length = β.length ∧ (β.set n v)[n]? = some v ∧ Rep w0 ω0 (β.set n v) (σ.set n ob) Φ ω' (w.alloc o) := by
  have hb := h.unborn hn
  have hlt : n < σ.length := (List.getElem?_eq_some_iff.1 hn).1
  have hlt' : n < β.length := by rw [h.len]; exact hlt
  have hext : BExt β (β.set n v) := by
    intro m u hm hr
    by_cases e : m = n
    · subst e; rw [hb] at hm; cases hm; simp [isRef] at hr
    · rw [List.getElem?_set_ne (fun h => e h.symm)]; exact hm
  refine ⟨fun b => if b = w.heap.size then n + 2 else ω b, hext, by simp, List.getElem?_set_self hlt', ?_⟩
  refine h.upd hlt rfl rfl rfl (by simp) ?_ ?_ ?_ (Fz.le_refl _) ?_ (hob _ _ (by simp) hext)
  · intro u hu hr; rw [hb] at hu; cases hu; simp [isRef] at hr
  · intro b hbl _
    refine ⟨Go.RowKit.Below.heap_alloc w o b hbl, ?_⟩
    rw [if_neg (by omega)]
  · intro b hb0
    by_cases e : b = w.heap.size
    · subst e; simp
    · rw [if_neg e] at hb0; have := h.lt b hb0; simp; omega
  · intro b ob' hbo
    obtain ⟨h1, h2⟩ := h.fz b ob' hbo
    have := h.lt b (by rw [h1]; omega)
    exact ⟨by rw [if_neg (by omega)]; exact h1, by rw [Go.RowKit.Below.heap_alloc w o b this]; exact h2⟩

theorem Rep.born_cells (h : Rep w0 ω0 β σ Φ ω w) {n : Nat} (hn : σ[n]? = some .unborn) {cs : Array Value} {vs : List SV} (T : TypeId) (hs : cs.size = vs.length) (hj : ∀ (j : Nat) x u, vs[j]? = some x → cs[j]? = some u → V β Φ x u) :
    ∃ ω' β', BExt β β' ∧ β'.length = β.length ∧ β'[n]? = some (.pointer (some ⟨w.heap.size, 0, none⟩)) ∧ Rep w0 ω0 β' (σ.set n (.cells vs)) Φ ω' (w.alloc (.cells cs T)) := by
  obtain ⟨ω', h1, h2, h3, h4⟩ := h.born hn (.cells cs T) (.cells vs) (.pointer (some ⟨w.heap.size, 0, none⟩)) fun ω' β' hω hext =>
    ⟨w.heap.size, cs, T, rfl, hω, heap_alloc_new w _, hs, fun j x u hx hu => (hj j x u hx hu).mono hext (Fz.le_refl _)⟩
  exact ⟨ω', _, h1, h2, h3, h4⟩
end

theorem op_alloc {P : Program} {o : Oper} {g : Operand → SV} {t : TypeId} {ti : TI} (ho : o.op = .alloc t) (ht : tiOf P t = some ti) (N : Nat) :
    OpR P o g [(N, .unborn)] (.p N 0) [(N, .cells (ti.zero.map .u))] := by
  intro w0 ω0 β Φ ω σ w ρ hR hg hrd
  obtain ⟨i, d, z, h1, h2, h3, h4, h5, h6, h7⟩ := tiOf_inv ht
  obtain ⟨hl, hz⟩ := pvs_ok (Φ := Φ) h4
  obtain ⟨ω', β', q1, q2, q3, q4⟩ := hR.born_cells (hrd N _ (by simp)) (cs := z.cells) (vs := ti.zero.map .u) t (by simp [hl]) (fun j x u hx hu => by
    rw [List.getElem?_map] at hx
    obtain ⟨y, hy, rfl⟩ := Option.map_eq_some_iff.1 hx
    exact .u _ _ (hz j y u hy (by simpa using hu)))
  refine ⟨.value (.pointer (some ⟨w.heap.size, 0, none⟩)), _, w.alloc (.cells z.cells t), β', Φ, ω', ?_, .inl rfl, q1, q2, Fz.le_refl _, ?_, q4⟩
  · simp only [execOp, ho, Instr.alloc, Sem.run_bind, zeroValue, typeInfo, run_program, Result.andThen_ok, h1, Sem.run_pure, h3, newVar, newRow, run_newObj]
    rfl
  · exact .p N 0 _ q3

theorem op_box {P : Program} {o : Oper} {g : Operand → SV} {t : TypeId} {x : Operand} (ho : o.op = .box t x) (N : Nat) (hx : (g x).cells.all SV.one = true) :
    OpR P o g [(N, .unborn)] (.p N 0) [(N, .cells (g x).cells)] := by
  intro w0 ω0 β Φ ω σ w ρ hR hg hrd
  obtain ⟨hs, hj, _⟩ := (hg x).cells hx
  obtain ⟨ω', β', q1, q2, q3, q4⟩ := hR.born_cells (hrd N _ (by simp)) (cs := (ρ x).cells) (vs := (g x).cells) t hs hj
  refine ⟨.value (.pointer (some ⟨w.heap.size, 0, none⟩)), _, w.alloc (.cells (ρ x).cells t), β', Φ, ω', ?_, .inl rfl, q1, q2, Fz.le_refl _, ?_, q4⟩
  · simp only [execOp, ho, Instr.box, Sem.run_bind, Sem.run_pure, Result.andThen_ok, newVar, newRow, run_newObj]
    rfl
  · exact .p N 0 _ q3

end Go.Nm
