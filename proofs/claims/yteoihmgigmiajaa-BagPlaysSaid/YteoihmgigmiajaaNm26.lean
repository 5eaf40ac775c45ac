/- A slice compared with nil: an empty one may be nil or not. -/
import Derived.Test.YteoihmgigmiajaaNm25
set_option linter.all false
set_option linter.unusedSimpArgs false
set_option linter.unusedVariables false
namespace Go.Nm

theorem run_slice_nil {P : Program} {t e : TypeId} (hu : P.underlying t = some (.slice e)) (a : Option Addr) (l c : Nat) (d : Nat) (w : World) : (Op.equalIn (d + 1) t (.slice a l c) (.slice none 0 0)).run P w = .ok a.isNone w := by
  cases a <;> simp [Op.equalIn, run_underlying hu]

theorem wps_nil2 {P : Program} {c : Cx} {e : Env} {σ : List SObj} {Q : Exit → Env → List SObj → Prop} {id : Nat} {ops : Array Oper} {o1 o2 : Oper} {x : Operand} {d1 d2 : Nat} {t t' el : TypeId} {els : List (List PV)} {q : Option Nat}
    (hops : ops = #[o1, o2]) (h1 : o1.op = .move x) (hd1 : o1.dst = some d1) (hg1 : o1.guard = none) (h2 : o2.op = .binOp .eql t (.tmp d1) (.const (.slice none 0 0)) t') (hd2 : o2.dst = some d2) (hg2 : o2.guard = none)
    (hl1 : d1 < c.nt) (hl2 : d2 < c.nt) (hu : P.underlying t = some (.slice el)) (hx : opnd e x = .u (.fz els q))
    (h : ∀ b : Bool, (b = true → els = []) → Q .normal ((e.put (some d1) (.u (.fz els q))).put (some d2) (.u (.b b))) σ) : WPS P c (.region id ops false) e σ Q := by
  subst hops
  intro a w hst
  refine wp_region ?_
  obtain ⟨β, Φ, ω, k1, k2, k3, k4, k5, k6⟩ := hst
  have hr : List.range (#[o1, o2] : Array Oper).size = [0, 1] := rfl
  rw [hr]
  refine wpOps_cons (o := o1) rfl ?_
  rw [if_pos (by simp [Region.wanted, hg1])]
  have hO : OpR P o1 (opnd e) [] (opnd e x) [] := op_move (.inl h1)
  refine wp_of_opR hO (fun t ht => by rw [hd1] at ht; cases ht; exact hl1) k1 k2 k3 k4 k5 k6 (fun y => k5.opnd y) trivial fun a1 w1 hs1 => ?_
  obtain ⟨β1, Φ1, ω1, m1, m2, m3, m4, m5, m6⟩ := hs1
  refine wpOps_cons (o := o2) rfl ?_
  rw [if_pos (by simp [Region.wanted, hg2])]
  have hv := m5.opnd (.tmp d1)
  have he1 : opnd (e.put o1.dst (opnd e x)) (.tmp d1) = .u (.fz els q) := by
    show (e.put o1.dst (opnd e x)).get d1 = _
    rw [hd1, hx]; simp [Env.put, Env.get]
  rw [he1] at hv
  obtain ⟨sz, ad, cap, f, hval, hsz, hl, hm, hc, ha, _, _⟩ := hv.inv_fz
  have hrun : (execOp a1.eval o2).run P w1 = .ok (.value (.bool ad.isNone)) w1 := by
    have h9 : (Op.equalIn 10000 t (.slice ad els.length cap) (.slice none 0 0)).run P w1 = .ok ad.isNone w1 := run_slice_nil hu ad els.length cap 9999 w1
    have hc0 : a1.eval (.const (.slice none 0 0)) = .slice none 0 0 := rfl
    simp [execOp, h2, hval, hc0, eqGuard_at_slice, binOp, Op.equal, Op.maxDepth, h9]
  unfold Oper.wp
  rw [hrun]
  refine ⟨_, _, ?_, h ad.isNone fun hb => ?_⟩
  · rw [hd1, hx] at m5
    have : St c ((e.put (some d1) (.u (.fz els q))).put o2.dst (.u (.b ad.isNone))) σ (a1.put o2.dst (.bool ad.isNone)) w1 := St.put (fun t ht => by rw [hd2] at ht; cases ht; exact hl2) m1 m2 m3 m4 m5 m6 (V.mk_b _)
    rw [hd2] at this ⊢
    exact this
  · cases hlen : els with
    | nil => rfl
    | cons y l =>
      have := ha (by rw [hlen]; simp)
      cases ad <;> simp at hb this

theorem wps_nilL {P : Program} {c : Cx} {e : Env} {σ : List SObj} {Q : Exit → Env → List SObj → Prop} {id : Nat} {x : Operand} {d1 d2 : Nat} {t t' el t1 t2 : TypeId} {p1 p2 : String} {a1 a2 : Array Edge} {els : List (List PV)} {q : Option Nat}
    (hl1 : d1 < c.nt) (hl2 : d2 < c.nt) (hu : P.underlying t = some (.slice el)) (hx : opnd e x = .u (.fz els q))
    (h : ∀ b : Bool, (b = true → els = []) → Q .normal ((e.put (some d1) (.u (.fz els q))).put (some d2) (.u (.b b))) σ) :
    WPS P c (.region id #[{ dst := some d1, op := .move x, type := t1, pos := p1, after := a1, guard := none }, { dst := some d2, op := .binOp .eql t (.tmp d1) (.const (.slice none 0 0)) t', type := t2, pos := p2, after := a2, guard := none }] false) e σ Q :=
  wps_nil2 rfl rfl rfl rfl rfl rfl rfl hl1 hl2 hu hx h

/-- what is known of a value's room is let go -/
theorem ent_cap {c : Cx} {e : Env} {σ : List SObj} (t : Nat) {els : List (List PV)} {q : Option Nat} (he : e.get t = .u (.fz els q)) : Ent c e σ (e.put (some t) (.u (.fz els none))) σ := by
  rintro a w ⟨β, Φ, ω, h1, h2, h3, h4, h5, h6⟩
  refine ⟨β, Φ, ω, h1, h2, h3, h4, fun s => ?_, h6⟩
  rw [get_put]
  by_cases hs : t = s
  · subst hs
    rw [if_pos rfl]
    have hv := h5 t
    rw [he] at hv
    obtain ⟨sz, ad, cap, f, hval, hsz, hl, hm, hc, ha, g1, g2⟩ := hv.inv_fz
    rw [hval]
    exact .u _ _ (.fz sz els none ad cap f hsz hl hm (by simp) ha g1 g2)
  · rw [if_neg (by simpa using hs)]
    exact h5 s

theorem setBack_more {f : SObj → SObj} : ∀ (θ : List Nat) (l m σ : List SObj), l.length = θ.length → setBack f θ (l ++ m) σ = setAll σ (θ.zip (l.map f)) ++ m.map f
  | [], l, m, σ, h => by
    have : l = [] := List.eq_nil_of_length_eq_zero (by simpa using h)
    subst this; simp [setBack, setAll]
  | n :: θ, x :: l, m, σ, h => by
    simp only [List.cons_append, setBack, List.map_cons, List.zip_cons_cons, setAll]
    exact setBack_more θ l m _ (by simpa using h)
  | n :: θ, [], m, σ, h => by simp at h

/-- a contract in a small memory, wherever its objects stand; with new objects -/
theorem callT_atN {P : Program} {f : FuncId} {al : List SV} {σl τ ν : List SObj} {R : SV} {args : List SV} {σ : List SObj} {K : SV → List SObj → Prop} (θ : List Nat) (obs : List SObj) (hC : CallT P f al σl fun r σ' => r = R ∧ σ' = τ ++ ν)
    (hd : distinctS (θ.map some) = true) (ho : obs.length = θ.length) (hrd : rdOK σ (θ.zip obs)) (ha : args.map (SV.mv fun k => posOf k (θ.map some)) = al) (hσ : obs.map (SObj.mv fun k => posOf k (θ.map some)) = σl) (hτ : τ.length = θ.length)
    (hK : K (R.mv (back θ σ.length)) (setAll σ (θ.zip (τ.map (SObj.mv (back θ σ.length)))) ++ ν.map (SObj.mv (back θ σ.length)))) : CallT P f args σ K := by
  obtain ⟨h1, h2⟩ := rdOK_zip ho hrd
  have hm : mvs (θ.map some) σ = σl := by
    rw [← hσ, ← h2]
    unfold mvs
    rw [List.map_map]; rfl
  refine (callT_frame (args := args) (σ := σ) θ hC hd (List.all_eq_true.2 fun n hn => by simpa using h1 n hn) ha hm).mono fun r σ' ⟨r0, σ0, ⟨e1, e2⟩, hr, hs⟩ => ?_
  subst e1 e2
  rw [hr, hs, setBack_more _ _ _ _ hτ]
  exact hK
end Go.Nm
