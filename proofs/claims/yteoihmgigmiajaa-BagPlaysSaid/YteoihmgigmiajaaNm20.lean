/- Calls with one answer; a row that was empty. -/
import Derived.Test.YteoihmgigmiajaaNm19
set_option linter.all false
set_option linter.unusedSimpArgs false
set_option linter.unusedVariables false
namespace Go.Nm

theorem callT_D {P : Program} {f : FuncId} {as : List SV} {rd : List (Nat × SObj)} {r : SV} {wr : List (Nat × SObj)} {σ : List SObj} {K : SV → List SObj → Prop} (h : CallD P f as rd r wr) (hrd : rdOK σ rd) (hK : K r (setAll σ wr)) : CallT P f as σ K :=
  (h σ hrd).mono fun r' σ' ⟨h1, h2⟩ => by subst h1 h2; exact hK

theorem setBack_setAll {f : SObj → SObj} : ∀ (θ : List Nat) (l σ : List SObj), l.length = θ.length → setBack f θ l σ = setAll σ (θ.zip (l.map f))
  | [], l, σ, h => by
    have : l = [] := List.eq_nil_of_length_eq_zero (by simpa using h)
    subst this; simp [setBack, setAll]
  | n :: θ, x :: l, σ, h => by
    simp only [setBack, List.map_cons, List.zip_cons_cons, setAll]
    exact setBack_setAll θ l _ (by simpa using h)
  | n :: θ, [], σ, h => by simp at h

theorem rdOK_zip : ∀ {θ : List Nat} {obs : List SObj} {σ : List SObj}, obs.length = θ.length → rdOK σ (θ.zip obs) → (∀ n ∈ θ, n < σ.length) ∧ ∀ ρ : Nat → Option Nat, (θ.map fun n => (σ.getD n .dead).mv ρ) = obs.map (SObj.mv ρ)
  | [], obs, σ, h, _ => by
    have : obs = [] := List.eq_nil_of_length_eq_zero (by simpa using h)
    subst this; simp
  | n :: θ, ob :: obs, σ, h, hr => by
    simp only [List.zip_cons_cons, rdOK] at hr
    obtain ⟨h1, h2⟩ := rdOK_zip (by simpa using h) hr.2
    refine ⟨fun m hm => ?_, fun ρ => ?_⟩
    · rcases List.mem_cons.1 hm with rfl | hm
      · exact (List.getElem?_eq_some_iff.1 hr.1).1
      · exact h1 m hm
    · rw [List.map_cons, List.map_cons, h2 ρ, List.getD_eq_getElem?_getD, hr.1, Option.getD_some]
  | n :: θ, [], σ, h, _ => by simp at h

/-- a contract in a small memory, wherever its objects stand -/
theorem callD_of {P : Program} {f : FuncId} {al : List SV} {σl τ : List SObj} {R : SV} (θ : List Nat) (obs : List SObj) {args : List SV} {R' : SV} {τ' : List SObj} (hC : CallT P f al σl fun r σ' => r = R ∧ σ' = τ)
    (hd : distinctS (θ.map some) = true) (ho : obs.length = θ.length) (hτ : τ.length = θ.length) (ha : args.map (SV.mv fun k => posOf k (θ.map some)) = al) (hσ : obs.map (SObj.mv fun k => posOf k (θ.map some)) = σl)
    (hR : ∀ N, R.mv (back θ N) = R') (hS : ∀ N, τ.map (SObj.mv (back θ N)) = τ') : CallD P f args (θ.zip obs) R' (θ.zip τ') := by
  intro σ hrd
  obtain ⟨h1, h2⟩ := rdOK_zip ho hrd
  have hm : mvs (θ.map some) σ = σl := by
    rw [← hσ, ← h2]
    unfold mvs
    rw [List.map_map]; rfl
  refine (callT_frame (args := args) (σ := σ) θ hC hd (List.all_eq_true.2 fun n hn => by simpa using h1 n hn) ha hm).mono fun r σ' ⟨r0, σ0, ⟨e1, e2⟩, hr, hs⟩ => ?_
  subst e1 e2
  refine ⟨hr.trans (hR _), ?_⟩
  rw [hs, setBack_setAll _ _ _ hτ, hS]

theorem callT_at {P : Program} {f : FuncId} {al : List SV} {σl τ : List SObj} {R : SV} {args : List SV} {R' : SV} {τ' : List SObj} {σ : List SObj} {K : SV → List SObj → Prop} (θ : List Nat) (obs : List SObj) (hC : CallT P f al σl fun r σ' => r = R ∧ σ' = τ)
    (hd : distinctS (θ.map some) = true) (ho : obs.length = θ.length) (hrd : rdOK σ (θ.zip obs)) (ha : args.map (SV.mv fun k => posOf k (θ.map some)) = al) (hσ : obs.map (SObj.mv fun k => posOf k (θ.map some)) = σl) (hτ : τ.length = θ.length)
    (hR : ∀ N, R.mv (back θ N) = R') (hS : ∀ N, τ.map (SObj.mv (back θ N)) = τ') (hK : K R' (setAll σ (θ.zip τ'))) : CallT P f args σ K :=
  callT_D (callD_of θ obs hC hd ho hτ ha hσ hR hS) hrd hK

theorem callE_at {P : Program} {f : FuncId} {al : List SV} {σl τ : List SObj} {R : SV} {args : List SV} {R' : SV} {τ' : List SObj} {σ : List SObj} {K : List (Nat × SObj) → SV → List (Nat × SObj) → Prop} (θ : List Nat) (obs : List SObj) (hC : CallT P f al σl fun r σ' => r = R ∧ σ' = τ)
    (hd : distinctS (θ.map some) = true) (ho : obs.length = θ.length) (hrd : rdOK σ (θ.zip obs)) (ha : args.map (SV.mv fun k => posOf k (θ.map some)) = al) (hσ : obs.map (SObj.mv fun k => posOf k (θ.map some)) = σl) (hτ : τ.length = θ.length)
    (hR : ∀ N, R.mv (back θ N) = R') (hS : ∀ N, τ.map (SObj.mv (back θ N)) = τ') (hK : K (θ.zip obs) R' (θ.zip τ')) : CallE P f args σ K :=
  ⟨_, _, _, callD_of θ obs hC hd ho hτ ha hσ hR hS, hrd, hK⟩

/-- a call that takes nothing from memory and makes new objects -/
theorem callT_new {P : Program} {f : FuncId} {al : List SV} {τ : List SObj} {R : SV} {args : List SV} {σ : List SObj} {K : SV → List SObj → Prop} (hC : CallT P f al [] fun r σ' => r = R ∧ σ' = τ)
    (ha : args.map (SV.mv fun k => posOf k []) = al) (hK : K (R.mv (back [] σ.length)) (σ ++ τ.map (SObj.mv (back [] σ.length)))) : CallT P f args σ K := by
  refine (callT_frame (args := args) (σ := σ) [] hC rfl rfl ha rfl).mono fun r σ' ⟨r0, σ0, ⟨e1, e2⟩, hr, hs⟩ => ?_
  subst e1 e2
  rw [hr, hs]
  exact hK

/-- an empty slice literal is a row that may grow -/
theorem ent_thaw {c : Cx} {e : Env} {σ : List SObj} {t : Nat} (T : TypeId) (sz : Nat) (he : e.get t = .u (.fz [] (some 0))) : Ent c e σ (e.put (some t) (.h σ.length)) (σ ++ [.row T sz []]) := by
  rintro a w ⟨β, Φ, ω, h1, h2, h3, h4, h5, h6⟩
  have hv := h5 t
  rw [he] at hv
  obtain ⟨ad, hval⟩ : ∃ ad, a.tmps.getD t undef = .slice ad 0 0 := by
    generalize a.tmps.getD t undef = v at hv
    cases hv with | u _ _ hv =>
    cases hv with | fz sz' elems c' ad cap f _ hl _ hc _ _ _ =>
    have hc0 : 0 = cap := hc 0 rfl
    subst hc0
    exact ⟨ad, rfl⟩
  have hlen := h6.len
  refine ⟨β ++ [a.tmps.getD t undef], Φ, ω, h1.trans (BExt.append _ _), h2, h3, h4, fun s => ?_, ⟨h6.os, h6.tape, h6.output, h6.size, h6.frame, h6.fz, h6.lt, by simp [hlen], fun n ob v hn hv => ?_⟩⟩
  · rw [get_put]
    by_cases hs : t = s
    · subst hs
      rw [if_pos rfl]
      refine .h _ _ (by rw [← hlen]; simp) ?_
      rw [hval]; rfl
    · rw [if_neg (by simpa using hs)]
      exact (h5 s).mono (BExt.append _ _) (Fz.le_refl _)
  · by_cases hlt : n < σ.length
    · rw [List.getElem?_append_left hlt] at hn
      rw [List.getElem?_append_left (by omega)] at hv
      exact (h6.obj n ob v hn hv).mono (BExt.append _ _) (Fz.le_refl _) fun b hb => ⟨hb, rfl⟩
    · rw [List.getElem?_append_right (by omega)] at hn
      rw [List.getElem?_append_right (by omega)] at hv
      have h0 : n - σ.length = 0 := by
        cases hk : n - σ.length with
        | zero => rfl
        | succ k => rw [hk] at hn; simp at hn
      rw [h0] at hn
      rw [show n - β.length = 0 by omega] at hv
      simp at hn hv
      subst hn hv
      exact .inl ⟨ad, by simpa using hval, rfl⟩

end Go.Nm
