/- The end of a function, said of lists written out. -/
import Derived.Test.YteoihmgigmiajaaNm20
set_option linter.all false
set_option linter.unusedSimpArgs false
set_option linter.unusedVariables false
namespace Go.Nm

def keepsB : Nat → Nat → List (Option Nat) → Bool
  | _, 0, _ => true
  | k, n + 1, some m :: r => decide (m = k) && keepsB (k + 1) n r
  | _, _ + 1, _ => false

theorem keepsB_ok : ∀ {n k : Nat} {src : List (Option Nat)}, keepsB k n src = true → ∀ j, j < n → src[j]? = some (some (k + j))
  | n + 1, k, some m :: r, h, j, hj => by
    simp only [keepsB, Bool.and_eq_true, decide_eq_true_eq] at h
    obtain ⟨rfl, h2⟩ := h
    cases j with
    | zero => rfl
    | succ j =>
      have := keepsB_ok h2 j (by omega)
      rw [List.getElem?_cons_succ, this, show m + 1 + j = m + (j + 1) by omega]
  | 0, _, _, _, j, hj => by omega
  | n + 1, _, none :: _, h, _, _ => by simp [keepsB] at h
  | n + 1, _, [], h, _, _ => by simp [keepsB] at h

/-- what a function hands over at its end -/
def RetL (P : Program) (rs : List ResultVar) (e : Env) (σ : List SObj) (n0 : Nat) (K : SV → List SObj → Prop) : Prop :=
  ∃ l src, resAll e σ P rs = some l ∧ resObs e σ P rs ∧ distinctS src = true ∧ keepsB 0 n0 src = true ∧ K ((retSV l).mv fun k => posOf k src) (mvs src σ)

theorem callT_ofL {P : Program} {f : FuncId} {fn : Func} {body : Code} {args : List SV} {σ : List SObj} {K : SV → List SObj → Prop} (nt : Nat) (rs : List ResultVar) (hf : P.funcs[f]? = some fn) (hb : fn.body = some body) (hnt : fn.ntmps = nt) (hrs : fn.results.toList = rs)
    (hn : args.length ≤ nt) (h : ∀ c : Cx, c.nt = nt → c.β0.length = σ.length → WPS P c body (enterEnv 0 args) σ fun ex e' σ' => match ex with
      | .normal => RetL P rs e' σ' σ.length K
      | .ret => RetL P rs e' σ' σ.length K
      | _ => False) : CallT P f args σ K := by
  refine callT_of hf hb (by rw [hnt]; exact hn) fun c hc hlen a w hst => ?_
  refine wp_mono (h c (hc.trans hnt) hlen a w hst) fun ex a w ⟨e', σ', hs, hq⟩ => ⟨e', σ', hs, ?_⟩
  have fin : RetL P rs e' σ' σ.length K → RetOK P fn e' σ' σ.length K := by
    rintro ⟨l, src, h1, h2, h3, h4, h5⟩
    refine ⟨l, src, by rw [hrs]; exact h1, by rw [hrs]; exact h2, h3, fun n hn => ?_, h5⟩
    have := keepsB_ok h4 n hn
    rwa [Nat.zero_add] at this
  cases ex with
  | normal => exact fin hq
  | ret => exact fin hq
  | exit id => exact hq.elim
  | goto l => exact hq.elim
  | panic ch => exact hq.elim
  | outgrown => exact hq.elim

/-- a function's end with one answer: the names from n0 on are let go -/
theorem retL {P : Program} {rs : List ResultVar} {e : Env} {σ : List SObj} {n0 : Nat} {K : SV → List SObj → Prop} (src : List (Option Nat)) {l : List SV} (h1 : resAll e σ P rs = some l) (h2 : resObs e σ P rs) (h3 : distinctS src = true) (h4 : keepsB 0 n0 src = true)
    (h5 : K ((retSV l).mv fun k => posOf k src) (mvs src σ)) : RetL P rs e σ n0 K := ⟨l, src, h1, h2, h3, h4, h5⟩

theorem wps_blk {P : Program} {c : Cx} {e : Env} {σ : List SObj} {Q : Exit → Env → List SObj → Prop} {id : Nat} {b : Code} (h : ∀ K : Env → List SObj → Prop, (∀ e' σ', Q .normal e' σ' → K e' σ') → WPS P c b e σ fun ex e' σ' => match ex with | .normal => K e' σ' | .exit id' => if id' = id then K e' σ' else Q (.exit id') e' σ' | ex => Q ex e' σ') : WPS P c (.block id b) e σ Q := by
  refine wps_block fun a w hst => wp_mono (h (fun e' σ' => Q .normal e' σ') (fun _ _ h => h) a w hst) fun ex a w ⟨e', σ', hs, hq⟩ => ⟨e', σ', hs, ?_⟩
  cases ex <;> exact hq

theorem wps_drawL {P : Program} {c : Cx} {e : Env} {σ : List SObj} {Q : Exit → Env → List SObj → Prop} {id : Nat} {ops : Array Oper} (hm : P.follows .mixedOrders = true) (hd : dstOK c.nt ops = true) (hs : drawOK ops = true) (k : Nat)
    {ms : List Nat} (hms : masksOf ops.toList [] = ms) (h : evDraw P (slotOf ops) ms ops.toList 0 e (σ ++ List.replicate k .unborn) σ.length [] fun e' σ' => Q .normal e' σ') : WPS P c (.region id ops true) e σ Q :=
  wps_draw hm hd hs k (by rw [hms]; exact h)

/-- a smaller environment, written out -/
def subL (ρ : Nat → Option Nat) (e : Env) : Env → Prop
  | [] => True
  | (d, x) :: r => (e.get d).mv ρ = x ∧ subL ρ e r

theorem subL_ok {src : List (Option Nat)} {e : Env} : ∀ {e' : Env}, subL (fun k => posOf k src) e e' → subE e' (mvE src e)
  | [], _, t => .inl rfl
  | (d, x) :: r, h, t => by
    simp only [Env.get]
    by_cases hd : d = t
    · subst hd
      rw [if_pos rfl, mvE_get]; exact .inr h.1.symm
    · rw [if_neg hd]; exact subL_ok h.2 t

theorem entL {c : Cx} {e e' : Env} {σ σ' : List SObj} {n0 : Nat} (hc : c.β0.length = n0) (src : List (Option Nat)) (hd : distinctS src = true) (hk : keepsB 0 n0 src = true) (hs : subL (fun k => posOf k src) e e') (hσ : mvs src σ = σ') : Ent c e σ e' σ' := by
  subst hσ
  refine ent_mv src hd (fun n hn => ?_) (subL_ok hs)
  have := keepsB_ok hk n (by omega)
  rwa [Nat.zero_add] at this

theorem wrap64 {n : Int} (h0 : -9223372036854775808 ≤ n) (h1 : n < 9223372036854775808) : IntKind.i64.wrap n = n := by
  simp only [IntKind.wrap, IntKind.bits, IntKind.signed, Bool.true_and]
  split <;> simp at * <;> omega
theorem wrapu64 {n : Int} (h0 : 0 ≤ n) (h1 : n < 18446744073709551616) : IntKind.u64.wrap n = n := by
  simp only [IntKind.wrap, IntKind.bits, IntKind.signed, Bool.false_and, Bool.false_eq_true, if_false]
  omega

/-! ### a loop, round for round -/
def WPL (P : Program) (c : Cx) (b : Code) (e : Env) (σ : List SObj) (Q : Exit → Env → List SObj → Prop) : Prop :=
  ∀ (a : Act) (w : World), St c e σ a w → ∀ b0 k cs, ∃ ex a' w', (∃ e' σ', St c e' σ' a' w' ∧ Q ex e' σ') ∧ Arrives P (lone (b0.at a (.code b :: .inLoop b :: k)) cs w) b0 k cs ex a' w'

theorem wps_loopU {P : Program} {c : Cx} {b : Code} {e : Env} {σ : List SObj} {Q : Exit → Env → List SObj → Prop} (h : WPL P c b e σ Q) : WPS P c (.loop b) e σ Q := by
  intro a w hst b0 k cs
  obtain ⟨ex, a', w', hq, harr⟩ := h a w hst b0 k cs
  exact ⟨ex, a', w', hq, .of_steps (.one step_loop) harr⟩

theorem wpl_round {P : Program} {c : Cx} {b : Code} {e : Env} {σ : List SObj} {Q : Exit → Env → List SObj → Prop}
    (h : ∀ K : Env → List SObj → Prop, (∀ e' σ', WPL P c b e' σ' Q → K e' σ') → WPS P c b e σ fun ex e' σ' => match ex with | .normal => K e' σ' | ex => Q ex e' σ') : WPL P c b e σ Q := by
  intro a w hst b0 k cs
  obtain ⟨ex, a1, w1, ⟨e2, σ2, hs2, hq⟩, harr⟩ := h (fun e' σ' => WPL P c b e' σ' Q) (fun _ _ h => h) a w hst b0 (.inLoop b :: k) cs
  cases ex with
  | normal =>
    obtain ⟨ex2, a2, w2, hq2, harr2⟩ := hq a1 w1 hs2 b0 k cs
    exact ⟨ex2, a2, w2, hq2, .of_steps (Steps.trans harr (.one step_inLoop)) harr2⟩
  | exit id => exact ⟨_, a1, w1, ⟨e2, σ2, hs2, hq⟩, .pass (x := .inLoop b) rfl (fun _ _ => .inl (by simp)) harr⟩
  | goto l => exact ⟨_, a1, w1, ⟨e2, σ2, hs2, hq⟩, .pass (x := .inLoop b) rfl (fun _ _ => .inl (by simp)) harr⟩
  | ret => exact ⟨_, a1, w1, ⟨e2, σ2, hs2, hq⟩, .pass (x := .inLoop b) rfl (fun _ _ => .inl (by simp)) harr⟩
  | panic ch => exact ⟨_, a1, w1, ⟨e2, σ2, hs2, hq⟩, .pass (x := .inLoop b) rfl (fun _ _ => .inl (by simp)) harr⟩
  | outgrown => exact ⟨_, a1, w1, ⟨e2, σ2, hs2, hq⟩, .pass (x := .inLoop b) rfl (fun _ _ => .inl (by simp)) harr⟩

/-- a row that is never written again is no longer than a row can be -/
theorem wps_fzlen {P : Program} {c : Cx} {e : Env} {σ : List SObj} {Q : Exit → Env → List SObj → Prop} {code : Code} (t : Nat) {els : List (List PV)} {q : Option Nat} (he : e.get t = .u (.fz els q)) (h : els.length ≤ maxLen → WPS P c code e σ Q) : WPS P c code e σ Q := by
  intro a w hst
  refine h ?_ a w hst
  obtain ⟨β, Φ, ω, h1, h2, h3, h4, h5, h6⟩ := hst
  have hv := h5 t
  rw [he] at hv
  generalize a.tmps.getD t undef = v at hv
  cases hv with | u _ _ hv =>
  cases hv with | fz sz' elems c' ad cap f _ hl hm _ _ _ _ =>
  omega

end Go.Nm
