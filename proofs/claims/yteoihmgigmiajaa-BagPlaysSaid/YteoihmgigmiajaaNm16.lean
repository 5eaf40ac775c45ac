/- A region that draws its order: the text's order serves, where what is not ordered does not meet. -/
import Derived.Test.YteoihmgigmiajaaNm15
import Derived.Orders
set_option linter.all false
set_option linter.unusedSimpArgs false
set_option linter.unusedVariables false
namespace Go.Nm

/-- a call with one answer, which looks at rd and writes wr -/
def CallD (P : Program) (f : FuncId) (as : List SV) (rd : List (Nat × SObj)) (r : SV) (wr : List (Nat × SObj)) : Prop :=
  ∀ σ, rdOK σ rd → CallT P f as σ fun r' σ' => r' = r ∧ σ' = setAll σ wr

def CallE (P : Program) (f : FuncId) (as : List SV) (σ : List SObj) (K : List (Nat × SObj) → SV → List (Nat × SObj) → Prop) : Prop := ∃ rd r wr, CallD P f as rd r wr ∧ rdOK σ rd ∧ K rd r wr

@[congr] theorem callE_congr {P : Program} {f : FuncId} {as as' : List SV} {σ σ' : List SObj} {K : List (Nat × SObj) → SV → List (Nat × SObj) → Prop} (h1 : as = as') (h2 : σ = σ') : CallE P f as σ K = CallE P f as' σ' K := by rw [h1, h2]

/-- the same under a guard: nothing is written -/
def CallG (P : Program) (c : Bool) (f : FuncId) (as : List SV) (ob : Prop) (σ : List SObj) (K : List (Nat × SObj) → SV → Prop) : Prop := ∃ rd r, (c = true → ob ∧ enterable P f = true ∧ CallD P f as rd r [] ∧ rdOK σ rd) ∧ K rd r

@[congr] theorem callG_congr {P : Program} {c c' : Bool} {f : FuncId} {as as' : List SV} {ob ob' : Prop} {σ σ' : List SObj} {K : List (Nat × SObj) → SV → Prop} (h0 : c = c') (h1 : as = as') (h2 : σ = σ') (h3 : ob = ob') : CallG P c f as ob σ K = CallG P c' f as' ob' σ' K := by rw [h0, h1, h2, h3]

/-- the names of an operation, apart from those of the operations ahead of it that it does not wait for -/
def apartN (a b : List Nat) : Bool := a.all fun n => !b.contains n

def chkN (mask : Nat) : Nat → List (List Nat × List Nat) → List Nat → List Nat → Bool
  | _, [], _, _ => true
  | i, (ri, wi) :: l, rj, wj => (mask.testBit i || (apartN wi rj && apartN wi wj && apartN ri wj)) && chkN mask (i + 1) l rj wj

def evDStep (P : Program) (sl : Nat → Option Nat) (o : Oper) (e : Env) (σ : List SObj) (N : Nat) (K : List (Nat × SObj) → SV → List (Nat × SObj) → Prop) : Prop :=
  match o.guard with
  | none => match callOf o (opnd e) with
    | some (f, as) => enterable P f = true ∧ CallE P f as σ K
    | none => match evOp P (fun n => σ.getD n .dead) N o (opnd e) with
      | .bad => False
      | .ok ob rd r wr => (ob ∧ rdOK σ rd) ∧ K rd r wr
  | some (j, want) => match sl j with
    | none => False
    | some s => match gdOf (e.get s) s want with
      | none => False
      | some (key, c) => match callOf o (fun x => strip key (opnd e x)) with
        | some (f, as) => CallG P c f as (gdObs key c (opnd e) o.op.operands.toList) σ fun rd r => K rd (.gd key c r) []
        | none => match evOp P (fun n => σ.getD n .dead) N o (fun x => strip key (opnd e x)) with
          | .bad => c = false ∧ K [] (.gd key false (zsv P o.type)) []
          | .ok ob rd r [] => (c = true → gdObs key c (opnd e) o.op.operands.toList ∧ ob ∧ rdOK σ rd) ∧ K rd (.gd key c r) []
          | .ok ob rd r wr => (c = true ∧ (gdObs key c (opnd e) o.op.operands.toList ∧ (ob ∧ rdOK σ rd)) ∧ K rd r wr) ∨ (c = false ∧ K [] .j [])

def evDraw (P : Program) (sl : Nat → Option Nat) (masks : List Nat) : List Oper → Nat → Env → List SObj → Nat → List (List Nat × List Nat) → (Env → List SObj → Prop) → Prop
  | [], _, e, σ, _, _, K => K e σ
  | o :: os, j, e, σ, N, acc, K => evDStep P sl o e σ N fun rd r wr =>
    chkN (masks.getD j 0) 0 acc (rd.map (·.1)) (wr.map (·.1)) = true ∧
    evDraw P sl masks os (j + 1) (e.put o.dst r) (setAll σ wr) (if usesN o.op then N + 1 else N) (acc ++ [(rd.map (·.1), wr.map (·.1))]) K

/-! ### what one operation does, wherever its turn comes -/
def StepOK (P : Program) (c : Cx) (ops : Array Oper) (o : Oper) (et : Env) (σt : List SObj) (rdn : List Nat) (r : SV) (wr : List (Nat × SObj)) : Prop :=
  ∀ (e : Env) (σ : List SObj) (a : Act) (w : World) (next : Act → World → Prop) (Q : Exit → Act → World → Prop), (∀ t ∈ o.looksAt ops, e.get t = et.get t) → (∀ n ∈ rdn, σ[n]? = σt[n]?) → St c e σ a w →
    (∀ a' w', St c (e.put o.dst r) (setAll σ wr) a' w' → next a' w') →
    if Region.wanted o (yielded ops a.tmps) then o.wp P a w next Q else next (a.put o.dst undef) w

theorem rdOK_of {σ σt : List SObj} : ∀ {rd : List (Nat × SObj)}, rdOK σt rd → (∀ n ∈ rd.map (·.1), σ[n]? = σt[n]?) → rdOK σ rd
  | [], _, _ => trivial
  | p :: rd, h, hn => ⟨by rw [hn p.1 (by simp)]; exact h.1, rdOK_of h.2 fun n hm => hn n (by simp at hm ⊢; exact .inr hm)⟩

theorem opnd_look {ops : Array Oper} {o : Oper} {e et : Env} (h : ∀ t ∈ o.looksAt ops, e.get t = et.get t) : ∀ x ∈ o.op.operands.toList, opnd e x = opnd et x := by
  intro x hx
  cases x with
  | tmp t => exact h t (List.mem_append_left _ (List.mem_filterMap.2 ⟨.tmp t, hx, rfl⟩))
  | _ => rfl

theorem gdObs_congr {key : List (Nat × Bool)} {c : Bool} {g g' : Operand → SV} : ∀ {l : List Operand}, (∀ x ∈ l, g x = g' x) → gdObs key c g l → gdObs key c g' l
  | [], _, _ => trivial
  | x :: l, h, hg => ⟨by rw [← h x (by simp)]; exact hg.1, gdObs_congr (fun y hy => h y (by simp [hy])) hg.2⟩

theorem St.gd {c : Cx} {e : Env} {σ : List SObj} {a : Act} {w : World} {d : Option Nat} {r : SV} {key : List (Nat × Bool)} (hs : St c (e.put d r) σ a w) : St c (e.put d (.gd key true r)) σ a w := by
  obtain ⟨β', Φ', ω', k1, k2, k3, k4, k5, k6⟩ := hs
  refine ⟨β', Φ', ω', k1, k2, k3, k4, fun t => ?_, k6⟩
  have := k5 t
  cases d with
  | none => exact this
  | some d =>
    simp only [Env.put, Env.get] at this ⊢
    by_cases hdt : d = t
    · rw [if_pos hdt] at this ⊢; exact .gd _ _ _ _ (fun _ => this) (by simp)
    · rw [if_neg hdt] at this ⊢; exact this

theorem evDStep_ok {P : Program} {ops : Array Oper} {o : Oper} {c : Cx} {e : Env} {σ : List SObj} {N : Nat} {K : List (Nat × SObj) → SV → List (Nat × SObj) → Prop} {i : Nat} (ho : ops[i]? = some o) (hsl : ∀ j s, slotOf ops j = some s → s < c.nt)
    (h : evDStep P (slotOf ops) o e σ N K) : ∃ rd r wr, K rd r wr ∧ StepOK P c ops o e σ (rd.map (·.1)) r wr := by
  have hd : ∀ t, o.dst = some t → t < c.nt := fun t ht => hsl i t (by unfold slotOf; rw [ho]; exact ht)
  unfold evDStep at h
  split at h
  · rename_i hgd
    split at h
    · rename_i f as hc
      obtain ⟨hen, rd, r, wr, hC, hrd, hK⟩ := h
      refine ⟨rd, r, wr, hK, fun e1 σ1 a w next Q hl hn hst hnext => ?_⟩
      have hw : Region.wanted o (yielded ops a.tmps) = true := by simp [Region.wanted, hgd]
      rw [if_pos hw]
      obtain ⟨β, Φ, ω, h1, h2, h3, h4, h5, h6⟩ := hst
      rw [← callOf_congr (opnd_look hl)] at hc
      exact wp_of_callT hc hen (hC σ1 (rdOK_of hrd hn)) hd h1 h2 h3 h4 h5 h6 (fun x => h5.opnd x) fun r' σ' a' w' ⟨he, hs⟩ hst' => hnext a' w' (by rw [← he, ← hs]; exact hst')
    · rename_i hc
      split at h
      · exact h.elim
      · rename_i ob rd r wr hev
        obtain ⟨⟨hob, hrd⟩, hK⟩ := h
        refine ⟨rd, r, wr, hK, fun e1 σ1 a w next Q hl hn hst hnext => ?_⟩
        have hw : Region.wanted o (yielded ops a.tmps) = true := by simp [Region.wanted, hgd]
        rw [if_pos hw]
        obtain ⟨β, Φ, ω, h1, h2, h3, h4, h5, h6⟩ := hst
        rw [← evOp_congr (opnd_look hl)] at hev
        exact wp_of_opR (evOp_ok hev hob) hd h1 h2 h3 h4 h5 h6 (fun x => h5.opnd x) (rdOK_of hrd hn) hnext
  · rename_i j want hgd
    split at h
    · exact h.elim
    · rename_i s hs
      have hlk : s ∈ o.looksAt ops := by
        unfold Oper.looksAt
        rw [hgd]
        refine List.mem_append_right _ ?_
        have : (ops[j]?).bind (·.dst) = some s := hs
        simp [this]
      split at h
      · exact h.elim
      · rename_i key cb hg
        have rel : ∀ {e1 : Env} {β : List Value} {Φ : Fz} {a : Act}, (∀ t ∈ o.looksAt ops, e1.get t = e.get t) → EnvOK β Φ e1 a.tmps → cb = true → gdObs key cb (opnd e) o.op.operands.toList →
            ∃ g' : Operand → SV, (∀ x ∈ o.op.operands.toList, g' x = strip key (opnd e x)) ∧ ∀ x, V β Φ (g' x) (a.eval x) := by
          intro e1 β Φ a hl h5 hct hobs
          subst hct
          have heq := opnd_look hl
          obtain ⟨g', hg1, hg2⟩ := strip_rel (gdObs_congr (fun x hx => (heq x hx).symm) hobs) (fun x => h5.opnd x)
          exact ⟨g', fun x hx => by rw [hg1 x hx, heq x hx], hg2⟩
        have skip : ∀ {e1 : Env} {σ1 : List SObj} {a : Act} {w : World}, St c e1 σ1 a w → St c (e1.put o.dst .j) σ1 (a.put o.dst undef) w := by
          rintro e1 σ1 a w ⟨β, Φ, ω, h1, h2, h3, h4, h5, h6⟩
          exact St.put hd h1 h2 h3 h4 h5 h6 (.j _)
        have skipg : ∀ {e1 : Env} {σ1 : List SObj} {a : Act} {w : World} (r : SV), St c e1 σ1 a w → St c (e1.put o.dst (.gd key false r)) σ1 (a.put o.dst undef) w := by
          rintro e1 σ1 a w r ⟨β, Φ, ω, h1, h2, h3, h4, h5, h6⟩
          exact St.put hd h1 h2 h3 h4 h5 h6 (.gd _ _ _ _ (by simp) (fun _ => rfl))
        have want : ∀ {e1 : Env} {σ1 : List SObj} {a : Act} {w : World}, (∀ t ∈ o.looksAt ops, e1.get t = e.get t) → St c e1 σ1 a w → Region.wanted o (yielded ops a.tmps) = cb := by
          rintro e1 σ1 a w hl ⟨β, Φ, ω, h1, h2, h3, h4, h5, h6⟩
          exact wanted_of hgd hs (by rw [hl s hlk]; exact hg) h5 (by rw [h4]; exact hsl j s hs)
        split at h
        · rename_i f as hc
          obtain ⟨rd, r, hA, hK⟩ := h
          refine ⟨rd, _, [], hK, fun e1 σ1 a w next Q hl hn hst hnext => ?_⟩
          rw [want hl hst]
          cases cb with
          | true =>
            obtain ⟨hobs, hen, hC, hrd⟩ := hA rfl
            obtain ⟨β, Φ, ω, h1, h2, h3, h4, h5, h6⟩ := hst
            obtain ⟨g', hg1, hg2⟩ := rel hl h5 rfl hobs
            rw [← callOf_congr hg1] at hc
            exact wp_of_callT hc hen (hC σ1 (rdOK_of hrd hn)) hd h1 h2 h3 h4 h5 h6 hg2 fun r' σ' a' w' ⟨he, hs'⟩ hst' => hnext a' w' (by
              subst he hs'; exact hst'.gd)
          | false => exact hnext _ _ (skipg r hst)
        · rename_i hc
          split at h
          · rename_i hev
            obtain ⟨rfl, hK⟩ := h
            refine ⟨[], _, [], hK, fun e1 σ1 a w next Q hl hn hst hnext => ?_⟩
            rw [want hl hst]
            exact hnext _ _ (skipg _ hst)
          · rename_i ob rd r hev
            obtain ⟨hA, hK⟩ := h
            refine ⟨rd, _, [], hK, fun e1 σ1 a w next Q hl hn hst hnext => ?_⟩
            rw [want hl hst]
            cases cb with
            | true =>
              obtain ⟨hobs, hob, hrd⟩ := hA rfl
              obtain ⟨β, Φ, ω, h1, h2, h3, h4, h5, h6⟩ := hst
              obtain ⟨g', hg1, hg2⟩ := rel hl h5 rfl hobs
              rw [← evOp_congr hg1] at hev
              exact wp_of_opR (evOp_ok hev hob) hd h1 h2 h3 h4 h5 h6 hg2 (rdOK_of hrd hn) fun a' w' hs' => hnext a' w' hs'.gd
            | false => exact hnext _ _ (skipg r hst)
          · rename_i ob rd r wr hwr hev
            rcases h with ⟨rfl, ⟨hobs, hob, hrd⟩, hK⟩ | ⟨rfl, hK⟩
            · refine ⟨rd, _, wr, hK, fun e1 σ1 a w next Q hl hn hst hnext => ?_⟩
              rw [want hl hst]
              obtain ⟨β, Φ, ω, h1, h2, h3, h4, h5, h6⟩ := hst
              obtain ⟨g', hg1, hg2⟩ := rel hl h5 rfl hobs
              rw [← evOp_congr hg1] at hev
              exact wp_of_opR (evOp_ok hev hob) hd h1 h2 h3 h4 h5 h6 hg2 (rdOK_of hrd hn) hnext
            · refine ⟨[], _, [], hK, fun e1 σ1 a w next Q hl hn hst hnext => ?_⟩
              rw [want hl hst]
              exact hnext _ _ (skip hst)

end Go.Nm
