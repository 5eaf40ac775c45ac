/- Operations one behind the other; the rules of the code. -/
import Derived.Test.YteoihmgigmiajaaNm13
import Derived.Scope
set_option linter.all false
set_option linter.unusedSimpArgs false
set_option linter.unusedVariables false
namespace Go.Nm

def usesN : Op → Bool
  | .alloc _ | .box _ _ | .makeMap _ _ => true
  | .call { callee := .builtin .append, .. } => true
  | _ => false

def rdOK (σ : List SObj) : List (Nat × SObj) → Prop
  | [] => True
  | (n, ob) :: r => σ[n]? = some ob ∧ rdOK σ r

theorem rdOK_mem {σ : List SObj} : ∀ {rd : List (Nat × SObj)}, rdOK σ rd → ∀ n ob, (n, ob) ∈ rd → σ[n]? = some ob
  | p :: rd, h, n, ob, hm => by
    rcases List.mem_cons.1 hm with rfl | hm
    · exact h.1
    · exact rdOK_mem h.2 n ob hm

def slotOf (ops : Array Oper) (j : Nat) : Option Nat := (ops[j]?).bind (·.dst)

/-- any value of a type -/
def zsv (P : Program) (t : TypeId) : SV := match tiOf P t with | some ti => rdCells ti (ti.zero.map .u) 0 | none => .j

/-- one operation, then the rest -/
def evStep (P : Program) (sl : Nat → Option Nat) (o : Oper) (e : Env) (σ : List SObj) (N : Nat) (K : Env → List SObj → Prop) : Prop :=
  match o.guard with
  | none => match callOf o (opnd e) with
    | some (f, as) => enterable P f = true ∧ CallT P f as σ fun r σ' => K (e.put o.dst r) σ'
    | none => match evOp P (fun n => σ.getD n .dead) N o (opnd e) with
      | .bad => False
      | .ok ob rd r wr => (ob ∧ rdOK σ rd) ∧ K (e.put o.dst r) (setAll σ wr)
  | some (j, want) => match sl j with
    | none => False
    | some s => match gdOf (e.get s) s want with
      | none => False
      | some (key, c) => match callOf o (fun x => strip key (opnd e x)) with
        | some (f, as) => (c = true → gdObs key c (opnd e) o.op.operands.toList ∧ enterable P f = true ∧ CallT P f as σ fun r σ' => K (e.put o.dst r) σ') ∧ (c = false → K (e.put o.dst (.gd key false (zsv P o.type))) σ)
        | none => match evOp P (fun n => σ.getD n .dead) N o (fun x => strip key (opnd e x)) with
          | .bad => c = false ∧ K (e.put o.dst (.gd key false (zsv P o.type))) σ
          | .ok ob rd r [] => (c = true → gdObs key c (opnd e) o.op.operands.toList ∧ ob ∧ rdOK σ rd) ∧ K (e.put o.dst (.gd key c r)) σ
          | .ok ob rd r wr => (c = true → gdObs key c (opnd e) o.op.operands.toList ∧ (ob ∧ rdOK σ rd) ∧ K (e.put o.dst r) (setAll σ wr)) ∧ (c = false → K (e.put o.dst (.gd key false (zsv P o.type))) σ)

def evOps (P : Program) (sl : Nat → Option Nat) : List Oper → Env → List SObj → Nat → (Env → List SObj → Prop) → Prop
  | [], e, σ, _, K => K e σ
  | o :: os, e, σ, N, K => evStep P sl o e σ N fun e' σ' => evOps P sl os e' σ' (if usesN o.op then N + 1 else N) K

def OpsS (P : Program) (c : Cx) (ops : Array Oper) (l : List Nat) (e : Env) (σ : List SObj) (K : Env → List SObj → Prop) : Prop :=
  ∀ (a : Act) (w : World) (Q : Exit → Act → World → Prop), St c e σ a w → (∀ a w e' σ', St c e' σ' a w → K e' σ' → Q .normal a w) → wpOps P ops Q l a w

theorem St.put {c : Cx} {e : Env} {σ : List SObj} {a : Act} {w : World} {d : Option Tmp} {x : SV} {v : Value} {β : List Value} {Φ : Fz} {ω : Nat → Nat} (hd : ∀ t, d = some t → t < c.nt) (h1 : BExt c.β0 β) (h2 : c.Φ0.le Φ) (h3 : a.defers = []) (h4 : a.tmps.size = c.nt)
    (h5 : EnvOK β Φ e a.tmps) (h6 : Rep c.w0 c.ω0 β σ Φ ω w) (hv : V β Φ x v) : St c (e.put d x) σ (a.put d v) w :=
  ⟨β, Φ, ω, h1, h2, by rw [defers_put]; exact h3, by rw [size_put]; exact h4, h5.put (fun t ht => by rw [h4]; exact hd t ht) hv, h6⟩

/-- a value operation, done -/
theorem wp_of_opR {P : Program} {o : Oper} {c : Cx} {e : Env} {σ : List SObj} {a : Act} {w : World} {g : Operand → SV} {rd : List (Nat × SObj)} {r : SV} {wr : List (Nat × SObj)} {next : Act → World → Prop} {Q : Exit → Act → World → Prop}
    (hO : OpR P o g rd r wr) (hd : ∀ t, o.dst = some t → t < c.nt) {β : List Value} {Φ : Fz} {ω : Nat → Nat} (h1 : BExt c.β0 β) (h2 : c.Φ0.le Φ) (h3 : a.defers = []) (h4 : a.tmps.size = c.nt)
    (h5 : EnvOK β Φ e a.tmps) (h6 : Rep c.w0 c.ω0 β σ Φ ω w) (hg : ∀ x, V β Φ (g x) (a.eval x)) (hrd : rdOK σ rd) (hn : ∀ a' w', St c (e.put o.dst r) (setAll σ wr) a' w' → next a' w') : o.wp P a w next Q := by
  obtain ⟨nx, v, w', β', Φ', ω', hr, hnx, hb, hl, hle, hv, hR⟩ := hO c.w0 c.ω0 β Φ ω σ w a.eval h6 hg (rdOK_mem hrd)
  have hst : St c (e.put o.dst r) (setAll σ wr) (a.put o.dst v) w' := St.put hd (h1.trans hb) (Fz.le_trans h2 hle) h3 h4 (h5.mono hb hle) hR hv
  unfold Oper.wp
  rw [hr]
  rcases hnx with rfl | ⟨rfl, rfl⟩
  · exact hn _ _ hst
  · exact hn _ _ hst

theorem wp_of_callT {P : Program} {o : Oper} {c : Cx} {e : Env} {σ : List SObj} {a : Act} {w : World} {g : Operand → SV} {f : FuncId} {as : List SV} {K : SV → List SObj → Prop} {next : Act → World → Prop} {Q : Exit → Act → World → Prop}
    (hc : callOf o g = some (f, as)) (hen : enterable P f = true) (hC : CallT P f as σ K) (hd : ∀ t, o.dst = some t → t < c.nt) {β : List Value} {Φ : Fz} {ω : Nat → Nat} (h1 : BExt c.β0 β) (h2 : c.Φ0.le Φ) (h3 : a.defers = []) (h4 : a.tmps.size = c.nt)
    (h5 : EnvOK β Φ e a.tmps) (h6 : Rep c.w0 c.ω0 β σ Φ ω w) (hg : ∀ x, V β Φ (g x) (a.eval x)) (hn : ∀ r σ' a' w', K r σ' → St c (e.put o.dst r) σ' a' w' → next a' w') : o.wp P a w next Q := by
  obtain ⟨vs, hr, hl, hv⟩ := call_enter (ρ := a.eval) hc hen hg
  unfold Oper.wp
  rw [hr w, Oper.upon_enter]
  refine (hC c.w0 c.ω0 β Φ ω w vs h6 hl hv).mono fun en w' ⟨r, v, β', σ', Φ', ω', he, hb, hle, hvr, hR, _, hK⟩ => ?_
  subst he
  exact hn r σ' _ w' hK (St.put hd (h1.trans hb) (Fz.le_trans h2 hle) h3 h4 (h5.mono hb hle) hR hvr)

theorem wpOps_cons {P : Program} {ops : Array Oper} {Q : Exit → Act → World → Prop} {i : Nat} {rest : List Nat} {a : Act} {w : World} {o : Oper} (ho : ops[i]? = some o)
    (h : if Region.wanted o (yielded ops a.tmps) then o.wp P a w (wpOps P ops Q rest) Q else wpOps P ops Q rest (a.put o.dst undef) w) : wpOps P ops Q (i :: rest) a w := by
  simp only [wpOps, ho]
  by_cases hw : Region.wanted o (yielded ops a.tmps) = true
  · rw [if_pos hw] at h ⊢; exact .inl h
  · rw [if_neg hw] at h ⊢; exact h

/-- what the guard's slot holds decides -/
theorem wanted_of {β : List Value} {Φ : Fz} {e : Env} {a : Act} {ops : Array Oper} {o : Oper} {j s : Nat} {want : Bool} {key : List (Nat × Bool)} {c : Bool} (hgd : o.guard = some (j, want)) (hs : slotOf ops j = some s) (hg : gdOf (e.get s) s want = some (key, c))
    (henv : EnvOK β Φ e a.tmps) (hlt : s < a.tmps.size) : Region.wanted o (yielded ops a.tmps) = c := by
  have hv := henv s
  have hy : yielded ops a.tmps j = match a.tmps.getD s undef with | .bool b => some b | _ => none := by
    unfold yielded
    have : (ops[j]?).bind (·.dst) = some s := hs
    rw [this]
    simp only [Option.bind_some]
    rw [Array.getElem?_eq_getElem hlt]
    simp only [Array.getD_eq_getD_getElem?, Array.getElem?_eq_getElem hlt, Option.getD_some]
    cases a.tmps[s] <;> rfl
  unfold Region.wanted
  rw [hgd]
  simp only
  unfold gdOf at hg
  split at hg <;> cases hg
  · rename_i t he
    rw [he] at hv
    rw [hy, hv.inv_b]
    cases t <;> cases want <;> rfl
  · rename_i k d t he
    rw [he] at hv
    cases d with
    | true =>
      cases hv with | gd _ _ _ _ hv _ =>
      rw [hy, (hv rfl).inv_b]
      cases t <;> cases want <;> rfl
    | false =>
      cases hv with | gd _ _ _ _ _ h0 =>
      rw [hy, h0 rfl]
      cases want <;> rfl

theorem evStep_ok {P : Program} {ops : Array Oper} {o : Oper} {c : Cx} {e : Env} {σ : List SObj} {N : Nat} {K K' : Env → List SObj → Prop} {i : Nat} {rest : List Nat} (ho : ops[i]? = some o) (hsl : ∀ j s, slotOf ops j = some s → s < c.nt)
    (h : evStep P (slotOf ops) o e σ N K) (hrest : ∀ e' σ', K e' σ' → OpsS P c ops rest e' σ' K') : OpsS P c ops (i :: rest) e σ K' := by
  intro a w Q hst hfin
  obtain ⟨β, Φ, ω, h1, h2, h3, h4, h5, h6⟩ := hst
  have hd : ∀ t, o.dst = some t → t < c.nt := fun t ht => hsl i t (by unfold slotOf; rw [ho]; exact ht)
  have hopnd : ∀ x, V β Φ (opnd e x) (a.eval x) := fun x => h5.opnd x
  have cont : ∀ e' σ' a' w', K e' σ' → St c e' σ' a' w' → wpOps P ops Q rest a' w' := fun e' σ' a' w' hK hs => hrest e' σ' hK a' w' Q hs hfin
  have skip : ∀ (key : List (Nat × Bool)) (x : SV), St c (e.put o.dst (.gd key false x)) σ (a.put o.dst undef) w := fun key x => St.put hd h1 h2 h3 h4 h5 h6 (.gd _ _ _ _ (by simp) (fun _ => rfl))
  refine wpOps_cons ho ?_
  unfold evStep at h
  split at h
  · rename_i hgd
    have hw : Region.wanted o (yielded ops a.tmps) = true := by simp [Region.wanted, hgd]
    rw [if_pos hw]
    split at h
    · rename_i f as hc
      obtain ⟨hen, hC⟩ := h
      exact wp_of_callT hc hen hC hd h1 h2 h3 h4 h5 h6 hopnd fun r σ' a' w' hK hs => cont _ _ a' w' hK hs
    · split at h
      · exact h.elim
      · rename_i ob rd r wr hev
        obtain ⟨⟨hob, hrd⟩, hK⟩ := h
        exact wp_of_opR (evOp_ok hev hob) hd h1 h2 h3 h4 h5 h6 hopnd hrd fun a' w' hs => cont _ _ a' w' hK hs
  · rename_i j want hgd
    split at h
    · exact h.elim
    · rename_i s hs
      split at h
      · exact h.elim
      · rename_i key cb hg
        have hwant := wanted_of hgd hs hg h5 (by rw [h4]; exact hsl j s hs)
        rw [hwant]
        have rel : cb = true → gdObs key cb (opnd e) o.op.operands.toList → ∃ g' : Operand → SV, (∀ x ∈ o.op.operands.toList, g' x = strip key (opnd e x)) ∧ ∀ x, V β Φ (g' x) (a.eval x) := by
          intro hct hobs
          subst hct
          exact strip_rel hobs hopnd
        split at h
        · rename_i f as hc
          obtain ⟨hA, hB⟩ := h
          cases cb with
          | true =>
            obtain ⟨hobs, hen, hC⟩ := hA rfl
            obtain ⟨g', hg1, hg2⟩ := rel rfl hobs
            rw [← callOf_congr hg1] at hc
            exact wp_of_callT hc hen hC hd h1 h2 h3 h4 h5 h6 hg2 fun r σ' a' w' hK hs => cont _ _ a' w' hK hs
          | false => exact cont _ _ _ _ (hB rfl) (skip _ _)
        · split at h
          · obtain ⟨rfl, hK⟩ := h
            exact cont _ _ _ _ hK (skip _ _)
          · rename_i ob rd r hev
            obtain ⟨hA, hK⟩ := h
            cases cb with
            | true =>
              obtain ⟨hobs, hob, hrd⟩ := hA rfl
              obtain ⟨g', hg1, hg2⟩ := rel rfl hobs
              rw [← evOp_congr hg1] at hev
              refine wp_of_opR (evOp_ok hev hob) hd h1 h2 h3 h4 h5 h6 hg2 hrd fun a' w' hs => cont _ _ a' w' hK ?_
              obtain ⟨β', Φ', ω', k1, k2, k3, k4, k5, k6⟩ := hs
              refine ⟨β', Φ', ω', k1, k2, k3, k4, fun t => ?_, k6⟩
              have := k5 t
              cases hdst : o.dst with
              | none => rw [hdst] at this; exact this
              | some d =>
                rw [hdst] at this
                simp only [Env.put, Env.get] at this ⊢
                by_cases hdt : d = t
                · rw [if_pos hdt] at this ⊢; exact .gd _ _ _ _ (fun _ => this) (by simp)
                · rw [if_neg hdt] at this ⊢; exact this
            | false =>
              have : St c (e.put o.dst (.gd key false r)) σ (a.put o.dst undef) w := St.put hd h1 h2 h3 h4 h5 h6 (.gd _ _ _ _ (by simp) (fun _ => rfl))
              exact cont _ _ _ _ hK this
          · rename_i ob rd r wr hwr hev
            obtain ⟨hA, hB⟩ := h
            cases cb with
            | true =>
              obtain ⟨hobs, ⟨hob, hrd⟩, hK⟩ := hA rfl
              obtain ⟨g', hg1, hg2⟩ := rel rfl hobs
              rw [← evOp_congr hg1] at hev
              exact wp_of_opR (evOp_ok hev hob) hd h1 h2 h3 h4 h5 h6 hg2 hrd fun a' w' hs => cont _ _ a' w' hK hs
            | false => exact cont _ _ _ _ (hB rfl) (skip _ _)

theorem evOps_ok {P : Program} {c : Cx} {ops : Array Oper} (hsl : ∀ j s, slotOf ops j = some s → s < c.nt) {K : Env → List SObj → Prop} : ∀ (os : List Oper) (k : Nat) (e : Env) (σ : List SObj) (N : Nat), ops.toList.drop k = os → k + os.length = ops.size →
    evOps P (slotOf ops) os e σ N K → OpsS P c ops ((List.range ops.size).drop k) e σ K
  | [], k, e, σ, N, hd, hl, h => by
    have : (List.range ops.size).drop k = [] := List.drop_eq_nil_of_le (by simp at hl ⊢; omega)
    rw [this]
    intro a w Q hst hfin
    exact hfin a w e σ hst h
  | o :: os, k, e, σ, N, hd, hl, h => by
    have hk : k < ops.size := by simp at hl; omega
    have e1 : (List.range ops.size).drop k = k :: (List.range ops.size).drop (k + 1) := by
      rw [List.drop_eq_getElem_cons (by simpa using hk)]; simp
    have ho : ops[k]? = some o := by
      have := congrArg (·[0]?) hd
      simpa using this
    have hd' : ops.toList.drop (k + 1) = os := by
      have := congrArg (List.drop 1) hd
      rw [List.drop_drop] at this
      simpa [Nat.add_comm] using this
    rw [e1]
    exact evStep_ok ho hsl h fun e' σ' hK => evOps_ok hsl os (k + 1) e' σ' _ hd' (by simp at hl; omega) hK

/-! ### the code -/
def WPS (P : Program) (c : Cx) (code : Code) (e : Env) (σ : List SObj) (Q : Exit → Env → List SObj → Prop) : Prop :=
  ∀ (a : Act) (w : World), St c e σ a w → code.wp P (fun ex a w => ∃ e' σ', St c e' σ' a w ∧ Q ex e' σ') a w

def dstOK (nt : Nat) (ops : Array Oper) : Bool := ops.toList.all fun o => match o.dst with | some d => decide (d < nt) | none => true

theorem dstOK_slot {nt : Nat} {ops : Array Oper} (h : dstOK nt ops = true) : ∀ j s, slotOf ops j = some s → s < nt := by
  intro j s hs
  unfold slotOf at hs
  obtain ⟨o, ho, hd⟩ := Option.bind_eq_some_iff.1 hs
  have := List.all_eq_true.1 h o (by rw [← Array.getElem?_toList] at ho; exact List.mem_of_getElem? ho)
  simpa [hd] using this

def countN (ops : Array Oper) : Nat := (ops.toList.filter fun o => usesN o.op).length

theorem St.reserve {c : Cx} {e : Env} {σ : List SObj} {a : Act} {w : World} (h : St c e σ a w) (k : Nat) : St c e (σ ++ List.replicate k .unborn) a w := by
  obtain ⟨β, Φ, ω, h1, h2, h3, h4, h5, h6⟩ := h
  exact ⟨_, Φ, ω, h1.trans (BExt.append _ _), h2, h3, h4, h5.mono (BExt.append _ _) (Fz.le_refl _), h6.reserve k⟩

section
variable {P : Program} {c : Cx} {e : Env} {σ : List SObj} {Q : Exit → Env → List SObj → Prop}

theorem wps_region {id : Nat} {ops : Array Oper} (hd : dstOK c.nt ops = true) (k : Nat) (h : evOps P (slotOf ops) ops.toList e (σ ++ List.replicate k .unborn) σ.length fun e' σ' => Q .normal e' σ') : WPS P c (.region id ops false) e σ Q := by
  intro a w hst
  refine wp_region ?_
  have := evOps_ok (dstOK_slot hd) ops.toList 0 e (σ ++ List.replicate k .unborn) σ.length rfl (by simp) h
  exact this a w _ (hst.reserve k) fun a w e' σ' hs hK => ⟨e', σ', hs, hK⟩

theorem wps_seq {x y : Code} (h : ∀ K : Env → List SObj → Prop, (∀ e' σ', WPS P c y e' σ' Q → K e' σ') → WPS P c x e σ fun ex e' σ' => match ex with | .normal => K e' σ' | ex => Q ex e' σ') : WPS P c (.seq x y) e σ Q := by
  intro a w hst
  refine wp_seq ?_
  refine wp_mono (h (fun e' σ' => WPS P c y e' σ' Q) (fun _ _ h => h) a w hst) fun ex a w hq => ?_
  obtain ⟨e', σ', hs, hK⟩ := hq
  cases ex with
  | normal => exact hK a w hs
  | exit id => exact ⟨e', σ', hs, hK⟩
  | goto l => exact ⟨e', σ', hs, hK⟩
  | ret => exact ⟨e', σ', hs, hK⟩
  | panic ch => exact ⟨e', σ', hs, hK⟩
  | outgrown => exact ⟨e', σ', hs, hK⟩

theorem wps_skip (h : Q .normal e σ) : WPS P c .skip e σ Q := fun a w hst => wp_skip ⟨e, σ, hst, h⟩
theorem wps_ret (h : Q .ret e σ) : WPS P c .ret e σ Q := fun a w hst => wp_ret ⟨e, σ, hst, h⟩
theorem wps_exit {id : Nat} (h : Q (.exit id) e σ) : WPS P c (.exit id) e σ Q := fun a w hst => wp_exit ⟨e, σ, hst, h⟩

theorem wps_cond {x : Operand} {t f : Code} {b : Bool} (hx : opnd e x = .u (.b b)) (ht : b = true → WPS P c t e σ Q) (hf : b = false → WPS P c f e σ Q) : WPS P c (.cond x t f) e σ Q := by
  intro a w hst
  have hst' := hst
  obtain ⟨β, Φ, ω, h1, h2, h3, h4, h5, h6⟩ := hst
  have hv := h5.opnd x
  rw [hx] at hv
  exact wp_cond_split hv.inv_b (fun hb => ht hb a w hst') (fun hb => hf hb a w hst')

theorem wps_block {id : Nat} {b : Code} (h : WPS P c b e σ fun ex e' σ' => match ex with | .exit id' => if id' = id then Q .normal e' σ' else Q (.exit id') e' σ' | ex => Q ex e' σ') : WPS P c (.block id b) e σ Q := by
  intro a w hst
  refine wp_block (wp_mono (h a w hst) fun ex a w hq => ?_)
  obtain ⟨e', σ', hs, hK⟩ := hq
  cases ex with
  | exit id' =>
    simp only [Exit.inBlock]
    by_cases hid : id' = id
    · simp only [hid, if_true] at hK ⊢; exact ⟨e', σ', hs, hK⟩
    · simp only [hid, if_false] at hK ⊢; exact ⟨e', σ', hs, hK⟩
  | normal => exact ⟨e', σ', hs, hK⟩
  | goto l => exact ⟨e', σ', hs, hK⟩
  | ret => exact ⟨e', σ', hs, hK⟩
  | panic ch => exact ⟨e', σ', hs, hK⟩
  | outgrown => exact ⟨e', σ', hs, hK⟩

/-- one way of seeing a state gives another -/
def Ent (c : Cx) (e : Env) (σ : List SObj) (e' : Env) (σ' : List SObj) : Prop := ∀ a w, St c e σ a w → St c e' σ' a w

theorem Ent.refl : Ent c e σ e σ := fun _ _ h => h

theorem wps_ent {code : Code} {e' : Env} {σ' : List SObj} (hE : Ent c e σ e' σ') (h : WPS P c code e' σ' Q) : WPS P c code e σ Q := fun a w hst => h a w (hE a w hst)

/-- a loop: what holds at the head of every round, with a number that falls -/
theorem wps_loop {b : Code} (I : Nat → Env → List SObj → Prop) {k0 : Nat} {e0 : Env} {σ0 : List SObj} (hE : Ent c e σ e0 σ0) (h0 : I k0 e0 σ0)
    (round : ∀ (K : Env → List SObj → Prop) k e1 σ1, I k e1 σ1 → (∀ e2 σ2 k' e3 σ3, Ent c e2 σ2 e3 σ3 → I k' e3 σ3 → k' < k → K e2 σ2) → WPS P c b e1 σ1 fun ex e2 σ2 => match ex with | .normal => K e2 σ2 | ex => Q ex e2 σ2) :
    WPS P c (.loop b) e σ Q := by
  intro a w hst b0 k cs
  have key : ∀ n e1 σ1 a w, I n e1 σ1 → St c e1 σ1 a w → ∃ ex a' w', (∃ e' σ', St c e' σ' a' w' ∧ Q ex e' σ') ∧ Arrives P (lone (b0.at a (.code b :: .inLoop b :: k)) cs w) b0 k cs ex a' w' := by
    intro n
    induction n using Nat.strongRecOn with
    | _ n ih =>
      intro e1 σ1 a w hI hs
      obtain ⟨ex, a1, w1, ⟨e2, σ2, hs2, hq⟩, harr⟩ := round (fun e2 σ2 => ∃ k' e3 σ3, k' < n ∧ I k' e3 σ3 ∧ Ent c e2 σ2 e3 σ3) n e1 σ1 hI (fun e2 σ2 k' e3 σ3 hE hI' hlt => ⟨k', e3, σ3, hlt, hI', hE⟩) a w hs b0 (.inLoop b :: k) cs
      cases ex with
      | normal =>
        obtain ⟨k', e3, σ3, hlt, hI', hE'⟩ := hq
        obtain ⟨ex2, a2, w2, hq2, harr2⟩ := ih k' hlt e3 σ3 a1 w1 hI' (hE' a1 w1 hs2)
        exact ⟨ex2, a2, w2, hq2, .of_steps (Steps.trans harr (.one step_inLoop)) harr2⟩
      | exit id => exact ⟨_, a1, w1, ⟨e2, σ2, hs2, hq⟩, .pass (x := .inLoop b) rfl (fun _ _ => .inl (by simp)) harr⟩
      | goto l => exact ⟨_, a1, w1, ⟨e2, σ2, hs2, hq⟩, .pass (x := .inLoop b) rfl (fun _ _ => .inl (by simp)) harr⟩
      | ret => exact ⟨_, a1, w1, ⟨e2, σ2, hs2, hq⟩, .pass (x := .inLoop b) rfl (fun _ _ => .inl (by simp)) harr⟩
      | panic ch => exact ⟨_, a1, w1, ⟨e2, σ2, hs2, hq⟩, .pass (x := .inLoop b) rfl (fun _ _ => .inl (by simp)) harr⟩
      | outgrown => exact ⟨_, a1, w1, ⟨e2, σ2, hs2, hq⟩, .pass (x := .inLoop b) rfl (fun _ _ => .inl (by simp)) harr⟩
  obtain ⟨ex, a', w', hq, harr⟩ := key k0 e0 σ0 a w h0 (hE a w hst)
  exact ⟨ex, a', w', hq, .of_steps (.one step_loop) harr⟩
end

/-! ### functions -/
/-- the results of a function, read -/
def resSV (e : Env) (σ : List SObj) (P : Program) : ResultVar → Option SV
  | .tmp t => some (e.get t)
  | .cell x t => match tiOf P t with
    | some ti => match evLoad (fun n => σ.getD n .dead) ti (e.get x) with
      | .ok _ _ r _ => some r
      | .bad => none
    | none => none

def resOb (e : Env) (σ : List SObj) (P : Program) : ResultVar → Prop
  | .tmp _ => True
  | .cell x t => match tiOf P t with
    | some ti => match evLoad (fun n => σ.getD n .dead) ti (e.get x) with
      | .ok ob rd _ _ => (ob ∧ 0 < ti.size) ∧ rdOK σ rd
      | .bad => False
    | none => False

def retSV : List SV → SV
  | [x] => x
  | l => .tup l

def resAll (e : Env) (σ : List SObj) (P : Program) : List ResultVar → Option (List SV)
  | [] => some []
  | r :: rs => match resSV e σ P r, resAll e σ P rs with
    | some x, some l => some (x :: l)
    | _, _ => none

def resObs (e : Env) (σ : List SObj) (P : Program) : List ResultVar → Prop
  | [] => True
  | r :: rs => resOb e σ P r ∧ resObs e σ P rs

def resF (tmps : Array Value) : ResultVar → Sem Value
  | .tmp t => pure (tmps.getD t undef)
  | .cell a t => do loadVar t (← asAddr (tmps.getD a undef))

theorem results_eq (fn : Func) (tmps : Array Value) : results fn tmps = (do let vs ← fn.results.mapM (resF tmps); pure (if h : vs.size = 1 then vs[0] else .tuple vs)) := by
  unfold results
  congr 1

theorem run_res {P : Program} {c : Cx} {e : Env} {σ : List SObj} {tmps : Array Value} {w : World} {β : List Value} {Φ : Fz} {ω : Nat → Nat} (h5 : EnvOK β Φ e tmps) (h6 : Rep c.w0 c.ω0 β σ Φ ω w) :
    ∀ (rs : List ResultVar) (l : List SV), resAll e σ P rs = some l → resObs e σ P rs → ∃ vs : List Value, (rs.mapM (m := Sem) (resF tmps)).run P w = .ok vs w ∧ vs.length = l.length ∧ ∀ (j : Nat) x v, l[j]? = some x → vs[j]? = some v → V β Φ x v
  | [], l, h, _ => by cases h; exact ⟨[], by simp, rfl, by simp⟩
  | r :: rs, l, h, ho => by
    unfold resAll at h
    split at h <;> cases h
    rename_i x l' hx hl
    obtain ⟨vs, h1, h2, h3⟩ := run_res h5 h6 rs l' hl ho.2
    have key : ∃ v, (resF tmps r).run P w = .ok v w ∧ V β Φ x v := by
      cases r with
      | tmp t =>
        cases hx
        exact ⟨_, rfl, h5 t⟩
      | cell s t =>
        have hob := ho.1
        simp only [resSV] at hx
        simp only [resOb] at hob
        cases ht : tiOf P t with
        | none => rw [ht] at hob; exact hob.elim
        | some ti =>
          rw [ht] at hob hx
          simp only at hob hx
          cases hev : evLoad (fun n => σ.getD n .dead) ti (e.get s) with
          | bad => rw [hev] at hob; exact hob.elim
          | ok ob rd r wr =>
            rw [hev] at hob hx
            simp only at hob hx
            cases hx
            obtain ⟨_, ad, u, h1, h2, h3⟩ := load_val ht hev hob.1.1 hob.1.2 h6 (h5 s) (rdOK_mem hob.2)
            refine ⟨u, ?_, h3⟩
            simp only [resF, h1, asAddr, Sem.run_bind, Sem.run_pure, Result.andThen_ok, h2]
    obtain ⟨v, hv1, hv2⟩ := key
    refine ⟨v :: vs, ?_, by simp [h2], fun j y u hy hu => ?_⟩
    · rw [List.mapM_cons]
      simp only [Sem.run_bind]
      rw [hv1]
      simp only [Result.andThen_ok, h1, Sem.run_pure]
    · cases j with
      | zero => simp at hy hu; subst hy hu; exact hv2
      | succ j => exact h3 j y u (by simpa using hy) (by simpa using hu)

theorem run_results {P : Program} {fn : Func} {c : Cx} {e : Env} {σ : List SObj} {tmps : Array Value} {w : World} {β : List Value} {Φ : Fz} {ω : Nat → Nat} (h5 : EnvOK β Φ e tmps) (h6 : Rep c.w0 c.ω0 β σ Φ ω w) {l : List SV}
    (h : resAll e σ P fn.results.toList = some l) (ho : resObs e σ P fn.results.toList) : ∃ v, (results fn tmps).run P w = .ok v w ∧ V β Φ (retSV l) v := by
  obtain ⟨vs, h1, h2, h3⟩ := run_res h5 h6 _ l h ho
  refine ⟨if h : vs.toArray.size = 1 then vs.toArray[0] else .tuple vs.toArray, ?_, ?_⟩
  · rw [results_eq]
    simp only [Sem.run_bind, Array.mapM_eq_mapM_toList, Sem.run_map]
    rw [h1]
    simp only [Result.andThen_ok, Sem.run_pure]
  · match l, vs, h2, h3 with
    | [x], [v], _, h3 => exact h3 0 x v rfl rfl
    | [], [], _, h3 => simp only [retSV]; exact .tup [] [] rfl (by simp)
    | x :: y :: l, u :: v :: vs, h2, h3 =>
      simp only [retSV]
      rw [dif_neg (by simp)]
      exact .tup _ _ h2 h3

/-- the environment at a function's entry -/
def enterEnv (k : Nat) : List SV → Env
  | [] => []
  | x :: r => (k, x) :: enterEnv (k + 1) r

theorem enterEnv_get : ∀ (args : List SV) (k t : Nat), (enterEnv k args).get t = if k ≤ t then (args[t - k]?).getD .j else .j
  | [], k, t => by simp [enterEnv, Env.get]
  | x :: r, k, t => by
    simp only [enterEnv, Env.get]
    by_cases h : k = t
    · subst h; simp
    · rw [if_neg h, enterEnv_get r (k + 1) t]
      by_cases hk : k ≤ t
      · rw [if_pos (by omega), if_pos hk, show t - k = (t - (k + 1)) + 1 by omega, List.getElem?_cons_succ]
      · rw [if_neg (by omega), if_neg hk]

end Go.Nm
