/- Names that a function came with, let go; a nil slice in a cell; a guarded call that leaves memory as it is. -/
import Derived.Test.YteoihmgigmiajaaNm23
set_option linter.all false
set_option linter.unusedSimpArgs false
set_option linter.unusedVariables false
namespace Go.Nm

def mvβ2 (n0 : Nat) (src : List (Option Nat)) (β : List Value) : List Value := (List.range src.length).map fun m => if m < n0 then β.getD m (.bool false) else (mvβ src β).getD m (.bool false)

def keepsS2 (n0 : Nat) (src : List (Option Nat)) : Prop := n0 ≤ src.length ∧ ∀ m n : Nat, m < n0 → src[m]? = some (some n) → n = m

theorem mvβ2_get {n0 : Nat} {src : List (Option Nat)} {β : List Value} {m n : Nat} {v : Value} (hk : keepsS2 n0 src) (h : src[m]? = some (some n)) (hv : β[n]? = some v) : (mvβ2 n0 src β)[m]? = some v := by
  have hlt : m < src.length := (List.getElem?_eq_some_iff.1 h).1
  unfold mvβ2
  rw [List.getElem?_map, List.getElem?_range hlt]
  simp only [Option.map_some]
  by_cases hm : m < n0
  · rw [if_pos hm]
    have := hk.2 m n hm h
    subst this
    rw [List.getD_eq_getElem?_getD, hv]; rfl
  · rw [if_neg hm, List.getD_eq_getElem?_getD, mvβ_get h hv]; rfl

theorem Rep.mv2 {w0 : World} {ω0 : Nat → Nat} {β : List Value} {σ : List SObj} {Φ : Fz} {ω : Nat → Nat} {w : World} (h : Rep w0 ω0 β σ Φ ω w) (n0 : Nat) (src : List (Option Nat)) (hd : distinctS src = true) (hk : keepsS2 n0 src) :
    ∃ ω', Rep w0 ω0 (mvβ2 n0 src β) (mvs src σ) Φ ω' w := by
  let f : Nat → Nat := fun k => match k with
    | 0 => 0
    | 1 => 1
    | n + 2 => match posOf n src with | some m => m + 2 | none => 0
  refine ⟨fun b => f (ω b), h.os, h.tape, h.output, h.size, fun b hb h0 => ?_, fun b o hb => ?_, fun b hb => ?_, by simp [mvβ2, mvs], fun m ob v hm hv => ?_⟩
  · obtain ⟨h1, h2⟩ := h.frame b hb h0
    exact ⟨h1, by simp only [h2]; rfl⟩
  · obtain ⟨h1, h2⟩ := h.fz b o hb
    exact ⟨by simp only [h1]; rfl, h2⟩
  · refine h.lt b fun e => hb ?_
    simp only [e]; rfl
  · rcases mvs_get hm with ⟨n, hn, rfl⟩ | rfl
    · rw [List.getD_eq_getElem?_getD]
      cases hσ : σ[n]? with
      | none => trivial
      | some ob =>
        obtain ⟨v', hv', hO⟩ := h.at_ hσ
        have := mvβ2_get hk hn hv'
        rw [hv] at this
        cases this
        exact hO.mv (fun n m v hp hv _ => mvβ2_get hk (posOf_some hp) hv) fun b hb => by simp only [hb, f, posOf_at hd hn]
    · trivial

theorem BExt.mvβ2 {β0 β : List Value} {src : List (Option Nat)} (h : BExt β0 β) (hk : keepsS2 β0.length src) : BExt β0 (mvβ2 β0.length src β) := fun n v hn hr => by
  have hlt : n < β0.length := (List.getElem?_eq_some_iff.1 hn).1
  have := h n v hn hr
  unfold Nm.mvβ2
  rw [List.getElem?_map, List.getElem?_range (Nat.lt_of_lt_of_le hlt hk.1)]
  simp only [Option.map_some]
  rw [if_pos hlt, List.getD_eq_getElem?_getD, this]; rfl

theorem ent_mv2 {c : Cx} {e e' : Env} {σ : List SObj} (src : List (Option Nat)) (hd : distinctS src = true) (hk : keepsS2 c.β0.length src) (hs : subE e' (mvE src e)) : Ent c e σ e' (mvs src σ) := by
  rintro a w ⟨β, Φ, ω, h1, h2, h3, h4, h5, h6⟩
  obtain ⟨ω', hR⟩ := h6.mv2 c.β0.length src hd hk
  refine ⟨_, Φ, ω', h1.mvβ2 hk, h2, h3, h4, fun t => ?_, hR⟩
  rcases hs t with h | h
  · rw [h]; exact .j _
  · rw [h, mvE_get]
    exact (h5 t).mv fun n m v hp hv _ => mvβ2_get hk (posOf_some hp) hv

def keepsB2 : Nat → Nat → List (Option Nat) → Bool
  | _, 0, _ => true
  | k, n + 1, some m :: r => decide (m = k) && keepsB2 (k + 1) n r
  | k, n + 1, none :: r => keepsB2 (k + 1) n r
  | _, _ + 1, [] => false

theorem keepsB2_ok : ∀ {n k : Nat} {src : List (Option Nat)}, keepsB2 k n src = true → n ≤ src.length ∧ ∀ j m : Nat, j < n → src[j]? = some (some m) → m = k + j
  | 0, k, src, _ => ⟨Nat.zero_le _, fun j m hj => by omega⟩
  | n + 1, k, some x :: r, h => by
    simp only [keepsB2, Bool.and_eq_true, decide_eq_true_eq] at h
    obtain ⟨rfl, h2⟩ := h
    obtain ⟨i1, i2⟩ := keepsB2_ok h2
    refine ⟨by simp; omega, fun j m hj hm => ?_⟩
    cases j with
    | zero => simp at hm; omega
    | succ j => have := i2 j m (by omega) (by simpa using hm); omega
  | n + 1, k, none :: r, h => by
    simp only [keepsB2] at h
    obtain ⟨i1, i2⟩ := keepsB2_ok h
    refine ⟨by simp; omega, fun j m hj hm => ?_⟩
    cases j with
    | zero => simp at hm
    | succ j => have := i2 j m (by omega) (by simpa using hm); omega
  | n + 1, k, [], h => by simp [keepsB2] at h

theorem entL2 {c : Cx} {e e' : Env} {σ σ' : List SObj} {n0 : Nat} (hc : c.β0.length = n0) (src : List (Option Nat)) (hd : distinctS src = true) (hk : keepsB2 0 n0 src = true) (hs : subL (fun k => posOf k src) e e') (hσ : mvs src σ = σ') : Ent c e σ e' σ' := by
  subst hσ
  obtain ⟨h1, h2⟩ := keepsB2_ok hk
  refine ent_mv2 src hd ⟨by omega, fun m n hm hn => ?_⟩ (subL_ok hs)
  have := h2 m n (by omega) hn
  omega

/-- a nil slice that stands in a cell is a row that may grow -/
theorem ent_thawC {c : Cx} {e : Env} {σ : List SObj} (n k : Nat) (T : TypeId) (sz : Nat) {vs : List SV} (hσ : σ[n]? = some (.cells vs)) (hk : vs[k]? = some (.u (.fz [] (some 0)))) :
    Ent c e σ e (σ.set n (.cells (vs.set k (.h σ.length))) ++ [.row T sz []]) := by
  rintro a w ⟨β, Φ, ω, h1, h2, h3, h4, h5, h6⟩
  obtain ⟨v, hv, hO⟩ := h6.at_ hσ
  obtain ⟨b, cs, Tt, rfl, hw, hc, hs, hj⟩ := hO
  have hkl : k < cs.size := by rw [hs]; exact (List.getElem?_eq_some_iff.1 hk).1
  have hu := hj k _ cs[k] hk (Array.getElem?_eq_getElem hkl)
  obtain ⟨ad, hval⟩ : ∃ ad, cs[k] = .slice ad 0 0 := by
    generalize cs[k] = u at hu
    cases hu with | u _ _ hv =>
    cases hv with | fz sz' elems c' ad cap f _ hl _ hc _ _ _ =>
    have hc0 : 0 = cap := hc 0 rfl
    subst hc0
    exact ⟨ad, rfl⟩
  have hlen := h6.len
  have hnl : n < σ.length := (List.getElem?_eq_some_iff.1 hσ).1
  refine ⟨β ++ [cs[k]], Φ, ω, h1.trans (BExt.append _ _), h2, h3, h4, fun t => (h5 t).mono (BExt.append _ _) (Fz.le_refl _), ⟨h6.os, h6.tape, h6.output, h6.size, h6.frame, h6.fz, h6.lt, by simp [hlen], fun m ob v hm hv' => ?_⟩⟩
  by_cases hlt : m < σ.length
  · rw [List.getElem?_append_left (by simpa using hlt)] at hm
    rw [List.getElem?_append_left (by omega)] at hv'
    by_cases he : m = n
    · subst he
      rw [List.getElem?_set_self hlt] at hm
      cases hm
      rw [hv] at hv'
      cases hv'
      refine ⟨b, cs, Tt, rfl, hw, hc, by simpa using hs, fun j x u hx hu' => ?_⟩
      by_cases hjk : j = k
      · subst hjk
        rw [List.getElem?_set_self (by rw [← hs]; exact hkl)] at hx
        cases hx
        rw [Array.getElem?_eq_getElem hkl] at hu'
        cases hu'
        refine .h _ _ (by rw [← hlen]; simp) ?_
        rw [hval]; rfl
      · rw [List.getElem?_set_ne (fun h => hjk h.symm)] at hx
        exact (hj j x u hx hu').mono (BExt.append _ _) (Fz.le_refl _)
    · rw [List.getElem?_set_ne (fun h => he h.symm)] at hm
      exact (h6.obj m ob v hm hv').mono (BExt.append _ _) (Fz.le_refl _) fun b hb => ⟨hb, rfl⟩
  · rw [List.getElem?_append_right (by simp; omega)] at hm
    rw [List.getElem?_append_right (by omega)] at hv'
    have h0 : m - σ.length = 0 := by
      cases hk' : m - σ.length with
      | zero => rfl
      | succ k' => rw [List.length_set, hk'] at hm; simp at hm
    rw [List.length_set, h0] at hm
    rw [show m - β.length = 0 by omega] at hv'
    simp at hm hv'
    subst hm hv'
    exact .inl ⟨ad, hval, rfl⟩

theorem setAll_id : ∀ {l : List (Nat × SObj)} {σ : List SObj}, rdOK σ l → setAll σ l = σ
  | [], _, _ => rfl
  | (n, ob) :: l, σ, h => by
    have : σ.set n ob = σ := by
      obtain ⟨hlt, he⟩ := List.getElem?_eq_some_iff.1 h.1
      rw [← he]; exact List.set_getElem_self hlt
    simp only [setAll, this]
    exact setAll_id h.2

theorem callD_id {P : Program} {f : FuncId} {al : List SV} {σl τ : List SObj} {R : SV} (θ : List Nat) (obs : List SObj) {args : List SV} {R' : SV} (hC : CallT P f al σl fun r σ' => r = R ∧ σ' = τ)
    (hd : distinctS (θ.map some) = true) (ho : obs.length = θ.length) (ha : args.map (SV.mv fun k => posOf k (θ.map some)) = al) (hσ : obs.map (SObj.mv fun k => posOf k (θ.map some)) = σl) (hτ : τ.length = θ.length)
    (hR : ∀ N, R.mv (back θ N) = R') (hS : ∀ N, τ.map (SObj.mv (back θ N)) = obs) : CallD P f args (θ.zip obs) R' [] := fun σ hrd => by
  refine (callD_of θ obs hC hd ho hτ ha hσ hR hS σ hrd).mono fun r σ' ⟨h1, h2⟩ => ⟨h1, ?_⟩
  rw [h2, setAll_id hrd]; rfl

/-- a guarded call that leaves memory as it is -/
theorem callG_at {P : Program} {c : Bool} {f : FuncId} {al : List SV} {σl τ : List SObj} {R : SV} {args : List SV} {R' : SV} {ob : Prop} {σ : List SObj} {K : List (Nat × SObj) → SV → Prop} (θ : List Nat) (obs : List SObj) (hob : c = true → ob) (hen : enterable P f = true) (hC : CallT P f al σl fun r σ' => r = R ∧ σ' = τ)
    (hd : distinctS (θ.map some) = true) (ho : obs.length = θ.length) (hrd : rdOK σ (θ.zip obs)) (ha : args.map (SV.mv fun k => posOf k (θ.map some)) = al) (hσ : obs.map (SObj.mv fun k => posOf k (θ.map some)) = σl) (hτ : τ.length = θ.length)
    (hR : ∀ N, R.mv (back θ N) = R') (hS : ∀ N, τ.map (SObj.mv (back θ N)) = obs) (hK : K (θ.zip obs) R') : CallG P c f args ob σ K :=
  ⟨_, _, fun hc => ⟨hob hc, hen, callD_id θ obs hC hd ho ha hσ hτ hR hS, hrd⟩, hK⟩

end Go.Nm
