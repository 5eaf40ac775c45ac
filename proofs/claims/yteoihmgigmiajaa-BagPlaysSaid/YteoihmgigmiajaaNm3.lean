/- What an operation does in memory, said by names: the statement, and the operations that touch no memory. -/
import Derived.Test.YteoihmgigmiajaaNm2
import Derived.Laws.Entries
import Derived.Laws.StructEq
set_option linter.all false
set_option linter.unusedSimpArgs false
set_option linter.unusedVariables false
namespace Go.Nm

def OpR (P : Program) (o : Oper) (g : Operand → SV) (rd : List (Nat × SObj)) (r : SV) (wr : List (Nat × SObj)) : Prop :=
  ∀ (w0 : World) (ω0 : Nat → Nat) (β : List Value) (Φ : Fz) (ω : Nat → Nat) (σ : List SObj) (w : World) (ρ : Operand → Value),
    Rep w0 ω0 β σ Φ ω w → (∀ x, V β Φ (g x) (ρ x)) → (∀ n ob, (n, ob) ∈ rd → σ[n]? = some ob) →
    ∃ nx v w' β' Φ' ω', (execOp ρ o).run P w = .ok nx w' ∧ (nx = .value v ∨ nx = .skip ∧ v = undef) ∧ BExt β β' ∧ β'.length = β.length ∧ Φ.le Φ' ∧
      V β' Φ' r v ∧ Rep w0 ω0 β' (setAll σ wr) Φ' ω' w'

theorem OpR.pure {P : Program} {o : Oper} {g : Operand → SV} {r : SV}
    (h : ∀ (β : List Value) (Φ : Fz) (ρ : Operand → Value) (w : World), (∀ x, V β Φ (g x) (ρ x)) → ∃ v, (execOp ρ o).run P w = .ok (.value v) w ∧ V β Φ r v) : OpR P o g [] r [] := by
  intro w0 ω0 β Φ ω σ w ρ hR hg _
  obtain ⟨v, hr, hv⟩ := h β Φ ρ w hg
  exact ⟨_, v, w, β, Φ, ω, hr, .inl rfl, BExt.refl _, rfl, Fz.le_refl _, hv, hR⟩

theorem OpR.read {P : Program} {o : Oper} {g : Operand → SV} {rd : List (Nat × SObj)} {r : SV}
    (h : ∀ (w0 : World) (ω0 : Nat → Nat) (β : List Value) (Φ : Fz) (ω : Nat → Nat) (σ : List SObj) (w : World) (ρ : Operand → Value),
      Rep w0 ω0 β σ Φ ω w → (∀ x, V β Φ (g x) (ρ x)) → (∀ n ob, (n, ob) ∈ rd → σ[n]? = some ob) → ∃ v, (execOp ρ o).run P w = .ok (.value v) w ∧ V β Φ r v) : OpR P o g rd r [] := by
  intro w0 ω0 β Φ ω σ w ρ hR hg hrd
  obtain ⟨v, hr, hv⟩ := h w0 ω0 β Φ ω σ w ρ hR hg hrd
  exact ⟨_, v, w, β, Φ, ω, hr, .inl rfl, BExt.refl _, rfl, Fz.le_refl _, hv, hR⟩

/-! inversions -/
section
variable {β : List Value} {Φ : Fz} {v : Value}
theorem V.inv_i {k : IntKind} {n : Int} (h : V β Φ (.u (.i k n)) v) : v = .int k n := by cases h with | u _ _ h => cases h; rfl
theorem V.inv_b {x : Bool} (h : V β Φ (.u (.b x)) v) : v = .bool x := by cases h with | u _ _ h => cases h; rfl
theorem V.inv_s {x : List UInt8} (h : V β Φ (.u (.s x)) v) : v = .string ⟨x.toArray⟩ := by cases h with | u _ _ h => cases h; rfl
theorem V.inv_np (h : V β Φ (.u .np) v) : v = .pointer none := by cases h with | u _ _ h => cases h; rfl
theorem V.inv_nm (h : V β Φ (.u .nm) v) : v = .map none := by cases h with | u _ _ h => cases h; rfl
theorem V.inv_nfn (h : V β Φ (.u .nfn) v) : v = .nilFunc := by cases h with | u _ _ h => cases h; rfl
theorem V.inv_fp {cs : List PV} (h : V β Φ (.u (.fp cs)) v) : ∃ (a : Addr) (f : Nat → Value), v = .pointer (some a) ∧ (∀ (j : Nat) x, cs[j]? = some x → Φ.cell (a.add j) = some (f j)) ∧ ∀ (j : Nat) x, cs[j]? = some x → VP Φ x (f j) := by
  cases h with | u _ _ h => cases h with | fp _ a f h1 h2 => exact ⟨a, f, rfl, h1, h2⟩
theorem V.inv_fz {els : List (List PV)} {c : Option Nat} (h : V β Φ (.u (.fz els c)) v) : ∃ (sz : Nat) (a : Option Addr) (cap : Nat) (f : Nat → Nat → Value), v = .slice a els.length cap ∧ (∀ e ∈ els, e.length = sz) ∧ els.length ≤ cap ∧ cap ≤ maxLen ∧
    (∀ k, c = some k → k = cap) ∧ (0 < els.length → a.isSome = true) ∧ (∀ (i : Nat) e (j : Nat) x ad, els[i]? = some e → e[j]? = some x → a = some ad → Φ.cell (ad.add (i * sz + j)) = some (f i j)) ∧
    ∀ (i : Nat) e (j : Nat) x, els[i]? = some e → e[j]? = some x → VP Φ x (f i j) := by
  cases h with | u _ _ h => cases h with | fz sz _ _ a cap f hsz hl hm hc ha h1 h2 => exact ⟨sz, a, cap, f, rfl, hsz, hl, hm, hc, ha, h1, h2⟩
theorem V.inv_p {n off : Nat} (h : V β Φ (.p n off) v) : ∃ a, β[n]? = some (.pointer (some a)) ∧ v = .pointer (some (a.add off)) := by cases h with | p _ _ a h => exact ⟨a, h, rfl⟩
theorem V.inv_rp {n sz i off : Nat} (h : V β Φ (.rp n sz i off) v) : ∃ a l c, β[n]? = some (.slice (some a) l c) ∧ v = .pointer (some (a.add (i * sz + off))) := by cases h with | rp _ _ _ _ a l c h => exact ⟨a, l, c, h, rfl⟩
theorem V.inv_sl {n sz lo hi : Nat} (h : V β Φ (.sl n sz lo hi) v) : ∃ a a' l c, β[n]? = some (.slice (some a) l c) ∧ v = .slice (some a') (hi - lo) (c - lo) ∧ lo ≤ hi ∧ hi ≤ c ∧ (lo < c → a' = a.add (lo * sz)) := by cases h with | sl _ _ _ _ a a' l c h h1 h2 ha => exact ⟨a, a', l, c, h, rfl, h1, h2, ha⟩
theorem V.inv_h {n : Nat} (h : V β Φ (.h n) v) : β[n]? = some v ∧ isRef v = true := by cases h with | h _ _ h hr => exact ⟨h, hr⟩
theorem V.inv_agg {cs : List SV} (h : V β Φ (.agg cs) v) : ∃ vs : List Value, v = .agg vs.toArray ∧ vs.length = cs.length ∧ ∀ (j : Nat) x (u : Value), cs[j]? = some x → vs[j]? = some u → V β Φ x u := by
  cases h with | agg _ vs hl h => exact ⟨vs, rfl, hl, h⟩
theorem V.inv_uagg {cs : List PV} (h : V β Φ (.u (.agg cs)) v) : ∃ vs : List Value, v = .agg vs.toArray ∧ vs.length = cs.length ∧ ∀ (j : Nat) x (u : Value), cs[j]? = some x → vs[j]? = some u → VP Φ x u := by
  cases h with | u _ _ h => cases h with | agg _ vs hl h => exact ⟨vs, rfl, hl, h⟩
theorem V.inv_tup {cs : List SV} (h : V β Φ (.tup cs) v) : ∃ vs : List Value, v = .tuple vs.toArray ∧ vs.length = cs.length ∧ ∀ (j : Nat) x (u : Value), cs[j]? = some x → vs[j]? = some u → V β Φ x u := by
  cases h with | tup _ vs hl h => exact ⟨vs, rfl, hl, h⟩
theorem V.inv_fn {f : FuncId} {cs : List SV} (h : V β Φ (.fn f cs) v) : ∃ vs : List Value, v = .func (.func f) #[] vs.toArray ∧ vs.length = cs.length ∧ ∀ (j : Nat) x (u : Value), cs[j]? = some x → vs[j]? = some u → V β Φ x u := by
  cases h with | fn _ _ vs hl h => exact ⟨vs, rfl, hl, h⟩
theorem V.inv_ufn {f : FuncId} {cs : List PV} (h : V β Φ (.u (.fn f cs)) v) : ∃ vs : List Value, v = .func (.func f) #[] vs.toArray ∧ vs.length = cs.length ∧ ∀ (j : Nat) x (u : Value), cs[j]? = some x → vs[j]? = some u → VP Φ x u := by
  cases h with | u _ _ h => cases h with | fn _ _ vs hl h => exact ⟨vs, rfl, hl, h⟩

theorem V.inv_utup {cs : List PV} (h : V β Φ (.u (.tup cs)) v) : ∃ vs : List Value, v = .tuple vs.toArray ∧ vs.length = cs.length ∧ ∀ (j : Nat) x (u : Value), cs[j]? = some x → vs[j]? = some u → VP Φ x u := by
  cases h with | u _ _ h => cases h with | tup _ vs hl h => exact ⟨vs, rfl, hl, h⟩

theorem V.mk_i (k : IntKind) (n : Int) : V β Φ (.u (.i k n)) (.int k n) := .u _ _ (.i k n)
theorem V.mk_b (x : Bool) : V β Φ (.u (.b x)) (.bool x) := .u _ _ (.b x)
theorem V.mk_s (x : List UInt8) : V β Φ (.u (.s x)) (.string ⟨x.toArray⟩) := .u _ _ (.s x)

/-- the cells of a value -/
theorem V.cells {x : SV} {v : Value} (h : V β Φ x v) (hx : x.cells.all SV.one = true) : v.cells.size = x.cells.length ∧ (∀ (j : Nat) y u, x.cells[j]? = some y → v.cells[j]? = some u → V β Φ y u) ∧ ∀ u ∈ v.cells.toList, u.oneCell' = true := by
  have one : ∀ (y : SV) (u : Value), y.one = true → V β Φ y u → u.oneCell' = true := by
    intro y u hy hv
    cases hv with
    | u z _ hz => cases hz <;> first | rfl | (simp [SV.one] at hy)
    | p => rfl
    | rp => rfl
    | sl => rfl
    | h _ _ _ hr => cases u <;> first | rfl | (simp [isRef] at hr)
    | fn => rfl
    | agg => simp [SV.one] at hy
    | tup => simp [SV.one] at hy
    | gd => simp [SV.one] at hy
    | j => simp [SV.one] at hy
  have single : ∀ (y : SV), x.cells = [y] → (v.cells = #[v]) → V β Φ y v → v.cells.size = x.cells.length ∧ (∀ (j : Nat) y u, x.cells[j]? = some y → v.cells[j]? = some u → V β Φ y u) ∧ ∀ u ∈ v.cells.toList, u.oneCell' = true := by
    intro y hy hvc hyv
    rw [hy, hvc]
    refine ⟨rfl, fun j z u hz hu => ?_, fun u hu => ?_⟩
    · cases j with
      | zero => simp at hz hu; subst hz hu; exact hyv
      | succ j => simp at hz
    · have : u = v := by simpa using hu
      subst this
      rw [hy] at hx
      exact one y u (by simpa using hx) hyv
  have many : ∀ (cs : List SV) (vs : List Value), x.cells = cs → v = .agg vs.toArray → vs.length = cs.length → (∀ (j : Nat) y (u : Value), cs[j]? = some y → vs[j]? = some u → V β Φ y u) →
      v.cells.size = x.cells.length ∧ (∀ (j : Nat) y u, x.cells[j]? = some y → v.cells[j]? = some u → V β Φ y u) ∧ ∀ u ∈ v.cells.toList, u.oneCell' = true := by
    intro cs vs hcs hv hl hall
    subst hv
    rw [hcs] at hx ⊢
    refine ⟨by simpa [Value.cells] using hl, fun j y u hy hu => hall j y u hy (by simpa [Value.cells] using hu), fun u hu => ?_⟩
    have hu' : u ∈ vs := by simpa [Value.cells] using hu
    obtain ⟨j, hj, rfl⟩ := List.getElem_of_mem hu'
    have hjc : j < cs.length := by omega
    have := List.all_eq_true.1 hx cs[j] (List.getElem_mem hjc)
    exact one _ _ this (hall j _ _ (List.getElem?_eq_getElem hjc) (List.getElem?_eq_getElem hj))
  cases h with
  | u z _ hz =>
    cases hz with
    | agg cs vs hl h =>
      refine many (cs.map .u) vs rfl rfl (by simpa using hl) fun j y u hy hu => ?_
      rw [List.getElem?_map] at hy
      obtain ⟨p, hp, rfl⟩ := Option.map_eq_some_iff.1 hy
      exact .u _ _ (h j p u hp hu)
    | tup cs vs hl h => simp [SV.cells, SV.one] at hx
    | b x => exact single _ rfl rfl (.u _ _ (.b x))
    | i k n => exact single _ rfl rfl (.u _ _ (.i k n))
    | s l => exact single _ rfl rfl (.u _ _ (.s l))
    | np => exact single _ rfl rfl (.u _ _ .np)
    | nm => exact single _ rfl rfl (.u _ _ .nm)
    | nfn => exact single _ rfl rfl (.u _ _ .nfn)
    | fp cs a f h1 h2 => exact single _ rfl rfl (.u _ _ (.fp cs a f h1 h2))
    | fz sz els c a cap f q1 q2 q3 q4 q5 q6 q7 => exact single _ rfl rfl (.u _ _ (.fz sz els c a cap f q1 q2 q3 q4 q5 q6 q7))
    | fn f cs vs hl h => exact single _ rfl rfl (.u _ _ (.fn f cs vs hl h))
  | p n off a h => exact single _ rfl rfl (.p n off a h)
  | rp n sz i off a l c h => exact single _ rfl rfl (.rp n sz i off a l c h)
  | sl n sz lo hi a a' l c h h1 h2 ha => exact single _ rfl rfl (.sl n sz lo hi a a' l c h h1 h2 ha)
  | h n v h hr =>
    refine single _ rfl ?_ (.h n v h hr)
    cases v <;> first | rfl | (simp [isRef] at hr)
  | fn f caps vs hl h => exact single _ rfl rfl (.fn f caps vs hl h)
  | agg cs vs hl h => exact many cs vs rfl rfl hl h
  | tup => simp [SV.cells, SV.one] at hx
  | gd => simp [SV.cells, SV.one] at hx
  | j => simp [SV.cells, SV.one] at hx
end

theorem V.ofList {β : List Value} {Φ : Fz} {cs : List SV} {f : Nat → Value} (h : ∀ (j : Nat) x, cs[j]? = some x → V β Φ x (f j)) : V β Φ (.agg cs) (.agg ((List.range cs.length).map f).toArray) := by
  refine .agg cs _ (by simp) fun j x u hx hu => ?_
  rw [List.getElem?_map] at hu
  obtain ⟨i, hi, rfl⟩ := Option.map_eq_some_iff.1 hu
  have hlt := (List.getElem?_eq_some_iff.1 hx).1
  rw [List.getElem?_range hlt] at hi
  cases hi
  exact h j x hx

/-! constants and operands -/
theorem pv1_ok {Φ : Fz} {v : Value} {x : PV} (h : pv1 v = some x) : VP Φ x v := by
  unfold pv1 at h
  split at h <;> first | cases h | skip
  · exact .b _
  · exact .i _ _
  · rename_i s
    have e : s = ⟨s.data.toList.toArray⟩ := by cases s; simp
    conv => rhs; rw [e]
    exact .s _
  · exact .np
  · exact .nm
  · exact .nfn
  · exact .fz 0 [] (some 0) none 0 (fun _ _ => default) (by simp) (by simp) (by simp) (by simp) (by simp) (by simp) (by simp)

theorem pvs_ok {Φ : Fz} : ∀ {l : List Value} {r : List PV}, pvs l = some r → r.length = l.length ∧ ∀ (j : Nat) x v, r[j]? = some x → l[j]? = some v → VP Φ x v
  | [], r, h => by cases h; simp
  | v :: l, r, h => by
    unfold pvs at h
    split at h
    · rename_i x r' h1 h2
      cases h
      obtain ⟨hl, hr⟩ := pvs_ok (Φ := Φ) h2
      refine ⟨by simp [hl], fun j y u hy hu => ?_⟩
      cases j with
      | zero => simp at hy hu; subst hy hu; exact pv1_ok h1
      | succ j => exact hr j y u (by simpa using hy) (by simpa using hu)
    · cases h

theorem cst_ok {β : List Value} {Φ : Fz} (v : Value) : V β Φ (cst v) v := by
  unfold cst
  split
  · rename_i x h; exact .u _ _ (pv1_ok h)
  · exact .j _

theorem EnvOK.opnd {β : List Value} {Φ : Fz} {e : Env} {a : Act} (h : EnvOK β Φ e a.tmps) (x : Operand) : V β Φ (opnd e x) (a.eval x) := by
  cases x with
  | tmp t => exact h t
  | const v => exact cst_ok v
  | global g => exact .j _
  | func f => exact .u _ _ (.fn f [] [] rfl (by simp))

theorem EnvOK.mono {β β' : List Value} {Φ Φ' : Fz} {e : Env} {tmps : Array Value} (hb : BExt β β') (hle : Φ.le Φ') (h : EnvOK β Φ e tmps) : EnvOK β' Φ' e tmps := fun t => (h t).mono hb hle

theorem EnvOK.put {β : List Value} {Φ : Fz} {e : Env} {a : Act} (h : EnvOK β Φ e a.tmps) {d : Option Nat} {x : SV} {v : Value} (hd : ∀ t, d = some t → t < a.tmps.size) (hv : V β Φ x v) :
    EnvOK β Φ (e.put d x) (a.put d v).tmps := by
  cases d with
  | none => exact h
  | some d =>
    intro t
    have hlt := hd d rfl
    simp only [Env.put, Act.put, Env.get]
    by_cases e : d = t
    · subst e
      simp [Array.getD_eq_getD_getElem?, Array.getElem?_setIfInBounds, hlt]
      exact hv
    · rw [if_neg e]
      have := h t
      simpa [Array.getD_eq_getD_getElem?, Array.getElem?_setIfInBounds, e] using this
end Go.Nm
