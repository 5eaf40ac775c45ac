/- Names given anew: the end of a round, the end of a function, a call in a larger memory. -/
import Derived.Test.YteoihmgigmiajaaNm14
set_option linter.all false
set_option linter.unusedSimpArgs false
set_option linter.unusedVariables false
namespace Go.Nm

/-- where a name stands in a list of old names -/
def posOf (n : Nat) : List (Option Nat) → Option Nat
  | [] => none
  | some m :: r => if m = n then some 0 else (posOf n r).map (· + 1)
  | none :: r => (posOf n r).map (· + 1)

def mvs (src : List (Option Nat)) (σ : List SObj) : List SObj := src.map fun
  | some n => (σ.getD n .dead).mv fun k => posOf k src
  | none => .dead

def mvE (src : List (Option Nat)) (e : Env) : Env := e.map fun p => (p.1, p.2.mv fun k => posOf k src)

theorem posOf_some {n : Nat} : ∀ {src : List (Option Nat)} {m : Nat}, posOf n src = some m → src[m]? = some (some n)
  | some k :: r, m, h => by
    unfold posOf at h
    by_cases e : k = n
    · subst e; rw [if_pos rfl] at h; cases h; rfl
    · rw [if_neg e] at h
      obtain ⟨j, hj, rfl⟩ := Option.map_eq_some_iff.1 h
      simpa using posOf_some hj
  | none :: r, m, h => by
    unfold posOf at h
    obtain ⟨j, hj, rfl⟩ := Option.map_eq_some_iff.1 h
    simpa using posOf_some hj

def distinctS : List (Option Nat) → Bool
  | [] => true
  | some n :: r => (posOf n r).isNone && distinctS r
  | none :: r => distinctS r

theorem posOf_none {n : Nat} : ∀ {src : List (Option Nat)}, posOf n src = none → ∀ m : Nat, src[m]? ≠ some (some n)
  | some k :: r, h, m => by
    unfold posOf at h
    by_cases e : k = n
    · rw [if_pos e] at h; cases h
    · rw [if_neg e] at h
      have h' : posOf n r = none := by simpa using h
      cases m with
      | zero => simp [e]
      | succ m => simpa using posOf_none h' m
  | none :: r, h, m => by
    unfold posOf at h
    have h' : posOf n r = none := by simpa using h
    cases m with
    | zero => simp
    | succ m => simpa using posOf_none h' m
  | [], _, m => by simp

theorem posOf_at : ∀ {src : List (Option Nat)} {m n : Nat}, distinctS src = true → src[m]? = some (some n) → posOf n src = some m
  | some k :: r, m, n, hd, h => by
    unfold distinctS at hd
    simp only [Bool.and_eq_true, Option.isNone_iff_eq_none] at hd
    unfold posOf
    cases m with
    | zero => simp at h; rw [if_pos h]
    | succ m =>
      have h' : r[m]? = some (some n) := by simpa using h
      have : k ≠ n := by
        rintro rfl
        exact posOf_none hd.1 m h'
      rw [if_neg this, posOf_at hd.2 h']; rfl
  | none :: r, m, n, hd, h => by
    unfold distinctS at hd
    unfold posOf
    cases m with
    | zero => simp at h
    | succ m => rw [posOf_at hd (by simpa using h)]; rfl

theorem mvs_get {src : List (Option Nat)} {σ : List SObj} {m : Nat} {ob : SObj} (h : (mvs src σ)[m]? = some ob) : (∃ n, src[m]? = some (some n) ∧ ob = (σ.getD n .dead).mv fun k => posOf k src) ∨ ob = .dead := by
  unfold mvs at h
  rw [List.getElem?_map] at h
  obtain ⟨o, ho, rfl⟩ := Option.map_eq_some_iff.1 h
  cases o with
  | some n => exact .inl ⟨n, ho, rfl⟩
  | none => exact .inr rfl

def mvβ (src : List (Option Nat)) (β : List Value) : List Value := src.map fun
  | some n => β.getD n (.bool false)
  | none => .bool false

theorem mvβ_get {src : List (Option Nat)} {β : List Value} {m n : Nat} {v : Value} (h : src[m]? = some (some n)) (hv : β[n]? = some v) : (mvβ src β)[m]? = some v := by
  unfold mvβ
  rw [List.getElem?_map, h]
  simp [List.getD_eq_getElem?_getD, hv]

theorem mv_rel {src : List (Option Nat)} {β : List Value} : ∀ (n m : Nat) (v : Value), posOf n src = some m → β[n]? = some v → isRef v = true → (mvβ src β)[m]? = some v :=
  fun n m v h hv _ => mvβ_get (posOf_some h) hv

theorem O.mv {β β' : List Value} {Φ : Fz} {heap : Array Obj} {ω ω' : Nat → Nat} {n m : Nat} {ob : SObj} {v : Value} {ρ : Nat → Option Nat} (hρ : ∀ (n m : Nat) (v : Value), ρ n = some m → β[n]? = some v → isRef v = true → β'[m]? = some v)
    (hω : ∀ b, ω b = n + 2 → ω' b = m + 2) (h : O β Φ heap ω n ob v) : O β' Φ heap ω' m (ob.mv ρ) v := by
  cases ob with
  | cells vs =>
    obtain ⟨b, cs, T, hv, hw, hc, hs, hj⟩ := h
    refine ⟨b, cs, T, hv, hω b hw, hc, by simpa using hs, fun j x u hx hu => ?_⟩
    rw [List.getElem?_map] at hx
    obtain ⟨y, hy, rfl⟩ := Option.map_eq_some_iff.1 hx
    exact (hj j y u hy hu).mv hρ
  | row T sz els =>
    rcases h with h | ⟨b, cap, cs, hv, hw, rest⟩
    · exact .inl h
    · exact .inr ⟨b, cap, cs, hv, hω b hw, rest⟩
  | buf T sz es =>
    obtain ⟨b, l, cs, hv, hw, rest⟩ := h
    exact ⟨b, l, cs, hv, hω b hw, rest⟩
  | map es =>
    obtain ⟨r, es', ck, hv, hw, rest⟩ := h
    exact ⟨r, es', ck, hv, hω r hw, rest⟩
  | dead => trivial
  | unborn => trivial

theorem Rep.mv {w0 : World} {ω0 : Nat → Nat} {β : List Value} {σ : List SObj} {Φ : Fz} {ω : Nat → Nat} {w : World} (h : Rep w0 ω0 β σ Φ ω w) (src : List (Option Nat)) (hd : distinctS src = true) :
    ∃ ω', Rep w0 ω0 (mvβ src β) (mvs src σ) Φ ω' w := by
  let f : Nat → Nat := fun k => match k with
    | 0 => 0
    | 1 => 1
    | n + 2 => match posOf n src with | some m => m + 2 | none => 0
  refine ⟨fun b => f (ω b), h.os, h.tape, h.output, h.size, fun b hb h0 => ?_, fun b o hb => ?_, fun b hb => ?_, by simp [mvβ, mvs], fun m ob v hm hv => ?_⟩
  · obtain ⟨h1, h2⟩ := h.frame b hb h0
    exact ⟨h1, by simp only [h2]; rfl⟩
  · obtain ⟨h1, h2⟩ := h.fz b o hb
    exact ⟨by simp only [h1]; rfl, h2⟩
  · refine h.lt b fun e => hb ?_
    simp only [e]; rfl
  · rcases mvs_get hm with ⟨n, hn, rfl⟩ | rfl
    · rw [List.getD_eq_getElem?_getD]
      cases hσ : σ[n]? with
      | none => trivial
      | some ob =>
        obtain ⟨v', hv', hO⟩ := h.at_ hσ
        have := mvβ_get hn hv'
        rw [hv] at this
        cases this
        exact hO.mv mv_rel fun b hb => by simp only [hb, f, posOf_at hd hn]
    · trivial

theorem mvE_get (src : List (Option Nat)) (e : Env) (t : Nat) : (mvE src e).get t = (e.get t).mv fun k => posOf k src := by
  induction e with
  | nil => simp [mvE, Env.get, SV.mv]
  | cons p r ih =>
    obtain ⟨d, x⟩ := p
    simp only [mvE, List.map_cons, Env.get] at ih ⊢
    by_cases hd : d = t
    · rw [if_pos hd, if_pos hd]
    · rw [if_neg hd, if_neg hd]; exact ih

/-- the names that a function came with keep their places -/
def keepsS (n0 : Nat) (src : List (Option Nat)) : Prop := ∀ n, n < n0 → src[n]? = some (some n)

theorem BExt.mvβ {β0 β : List Value} {src : List (Option Nat)} (h : BExt β0 β) (hk : keepsS β0.length src) : BExt β0 (mvβ src β) := fun n v hn hr =>
  mvβ_get (hk n (List.getElem?_eq_some_iff.1 hn).1) (h n v hn hr)

/-- a smaller environment -/
def subE (e' e : Env) : Prop := ∀ t, e'.get t = .j ∨ e'.get t = e.get t

theorem ent_mv {c : Cx} {e e' : Env} {σ : List SObj} (src : List (Option Nat)) (hd : distinctS src = true) (hk : keepsS c.β0.length src) (hs : subE e' (mvE src e)) : Ent c e σ e' (mvs src σ) := by
  rintro a w ⟨β, Φ, ω, h1, h2, h3, h4, h5, h6⟩
  obtain ⟨ω', hR⟩ := h6.mv src hd
  refine ⟨mvβ src β, Φ, ω', h1.mvβ hk, h2, h3, h4, fun t => ?_, hR⟩
  rcases hs t with h | h
  · rw [h]; exact .j _
  · rw [h, mvE_get]
    exact (h5 t).mv mv_rel

theorem ent_sub {c : Cx} {e e' : Env} {σ : List SObj} (hs : subE e' e) : Ent c e σ e' σ := by
  rintro a w ⟨β, Φ, ω, h1, h2, h3, h4, h5, h6⟩
  refine ⟨β, Φ, ω, h1, h2, h3, h4, fun t => ?_, h6⟩
  rcases hs t with h | h
  · rw [h]; exact .j _
  · rw [h]; exact h5 t

theorem Ent.trans {c : Cx} {e1 e2 e3 : Env} {σ1 σ2 σ3 : List SObj} (h : Ent c e1 σ1 e2 σ2) (k : Ent c e2 σ2 e3 σ3) : Ent c e1 σ1 e3 σ3 := fun a w hs => k a w (h a w hs)

/-! ### the end of a function -/
def RetOK (P : Program) (fn : Func) (e : Env) (σ : List SObj) (n0 : Nat) (K : SV → List SObj → Prop) : Prop :=
  ∃ l src, resAll e σ P fn.results.toList = some l ∧ resObs e σ P fn.results.toList ∧ distinctS src = true ∧ keepsS n0 src ∧ K ((retSV l).mv fun k => posOf k src) (mvs src σ)

theorem callT_of {P : Program} {f : FuncId} {fn : Func} {body : Code} {args : List SV} {σ : List SObj} {K : SV → List SObj → Prop} (hf : P.funcs[f]? = some fn) (hb : fn.body = some body) (hn : args.length ≤ fn.ntmps)
    (h : ∀ c : Cx, c.nt = fn.ntmps → c.β0.length = σ.length → WPS P c body (enterEnv 0 args) σ fun ex e' σ' => match ex with
      | .normal => RetOK P fn e' σ' σ.length K
      | .ret => RetOK P fn e' σ' σ.length K
      | _ => False) : CallT P f args σ K := by
  intro w0 ω0 β Φ ω w vs hR hl hv
  let c : Cx := ⟨w0, ω0, β, Φ, fn.ntmps⟩
  refine calls_of_wp hf hb ?_
  have hst : St c (enterEnv 0 args) σ { tmps := vs.toArray ++ Array.replicate (fn.ntmps - vs.toArray.size) undef, defers := [] } w := by
    refine ⟨β, Φ, ω, BExt.refl _, Fz.le_refl _, rfl, by simp [c]; omega, fun t => ?_, hR⟩
    rw [enterEnv_get]
    simp only [Nat.zero_le, if_true, Nat.sub_zero]
    by_cases ht : t < args.length
    · have h1 : args[t]? = some args[t] := List.getElem?_eq_getElem ht
      have h2 : vs[t]? = some (vs[t]'(by omega)) := List.getElem?_eq_getElem (by omega)
      rw [h1]
      have : (vs.toArray ++ Array.replicate (fn.ntmps - vs.toArray.size) undef).getD t undef = vs[t]'(by omega) := by
        rw [Array.getD_eq_getD_getElem?, Array.getElem?_append_left (by simp; omega)]
        simp [show t < vs.length by omega]
      rw [this]
      exact hv t _ _ h1 h2
    · rw [List.getElem?_eq_none (by omega)]; exact .j _
  refine wp_mono (h c rfl hR.len _ w hst) fun ex a w' hq => ?_
  obtain ⟨e', σ', hs, hq⟩ := hq
  have fin : RetOK P fn e' σ' σ.length K →
      a.defers = [] ∧ ∃ v, (results fn a.tmps).run P w' = .ok v w' ∧ ∃ r v' β' σ' Φ' ω', Ending.returned v = .returned v' ∧ BExt β β' ∧ Φ.le Φ' ∧ V β' Φ' r v' ∧ Rep w0 ω0 β' σ' Φ' ω' w' ∧ σ.length ≤ σ'.length ∧ K r σ' := by
    rintro ⟨l, src, hr, ho, hd, hk, hK⟩
    obtain ⟨β', Φ', ω', k1, k2, k3, k4, k5, k6⟩ := hs
    obtain ⟨v, hv1, hv2⟩ := run_results (c := c) k5 k6 hr ho
    obtain ⟨ω2, hR2⟩ := k6.mv src hd
    have hlen : σ.length ≤ (mvs src σ').length := by
      simp only [mvs, List.length_map]
      rcases Nat.eq_zero_or_pos σ.length with h0 | h0
      · omega
      · have := (List.getElem?_eq_some_iff.1 (hk (σ.length - 1) (by omega))).1; omega
    exact ⟨k3, v, hv1, _, v, _, _, Φ', ω2, rfl, BExt.mvβ k1 (by rw [show c.β0.length = σ.length from hR.len]; exact hk), k2, hv2.mv mv_rel, hR2, hlen, hK⟩
  cases ex with
  | normal => exact fin hq
  | ret => exact fin hq
  | exit id => exact hq.elim
  | goto l => exact hq.elim
  | panic ch => exact hq.elim
  | outgrown => exact hq.elim

/-! ### a call in a larger memory -/
/-- the names of the callee, as the caller has them: those that it was given, then new ones -/
def back (θ : List Nat) (N : Nat) (i : Nat) : Option Nat := if i < θ.length then θ[i]? else some (N + (i - θ.length))

def setBack {α : Type} (f : α → α) : List Nat → List α → List α → List α
  | [], rest, σ => σ ++ rest.map f
  | n :: θ, x :: rest, σ => setBack f θ rest (σ.set n (f x))
  | _ :: _, [], σ => σ

theorem setBack_old {α : Type} (f : α → α) : ∀ (θ : List Nat) (l σ : List α) (m : Nat), m < σ.length → m ∉ θ → (setBack f θ l σ)[m]? = σ[m]?
  | [], l, σ, m, hm, _ => by simp only [setBack]; rw [List.getElem?_append_left hm]
  | n :: θ, x :: l, σ, m, hm, hn => by
    simp only [setBack]
    rw [setBack_old f θ l _ m (by simpa using hm) (fun h => hn (by simp [h])), List.getElem?_set_ne (fun h => hn (by simp [h]))]
  | _ :: _, [], σ, m, _, _ => rfl

theorem setBack_at {α : Type} (f : α → α) : ∀ (θ : List Nat) (l σ : List α) (i n : Nat), θ.Nodup → (∀ k ∈ θ, k < σ.length) → θ[i]? = some n → θ.length ≤ l.length → (setBack f θ l σ)[n]? = (l[i]?).map f
  | [], l, σ, i, n, _, _, h, _ => by simp at h
  | k :: θ, x :: l, σ, i, n, hnd, hlt, h, hl => by
    simp only [setBack]
    cases i with
    | zero =>
      simp at h; subst h
      have hk := hlt k (by simp)
      rw [setBack_old f θ l _ k (by simpa using hk) (List.nodup_cons.1 hnd).1, List.getElem?_set_self hk]; rfl
    | succ i =>
      rw [setBack_at f θ l _ i n (List.nodup_cons.1 hnd).2 (fun j hj => by simpa using hlt j (by simp [hj])) (by simpa using h) (by simpa using hl)]
      simp
  | k :: θ, [], σ, i, n, _, _, _, hl => by simp at hl

theorem setBack_new {α : Type} (f : α → α) : ∀ (θ : List Nat) (l σ : List α) (j : Nat), θ.length ≤ l.length → (setBack f θ l σ)[σ.length + j]? = (l[θ.length + j]?).map f
  | [], l, σ, j, _ => by simp only [setBack]; rw [List.getElem?_append_right (by omega), List.getElem?_map]; simp
  | k :: θ, x :: l, σ, j, hl => by
    simp only [setBack]
    have := setBack_new f θ l (σ.set k (f x)) j (by simpa using hl)
    rw [List.length_set] at this
    rw [this, List.length_cons, show θ.length + 1 + j = (θ.length + j) + 1 by omega, List.getElem?_cons_succ]
  | _ :: _, [], σ, j, hl => by simp at hl

theorem setBack_length {α : Type} (f : α → α) : ∀ (θ : List Nat) (l σ : List α), θ.length ≤ l.length → (setBack f θ l σ).length = σ.length + (l.length - θ.length)
  | [], l, σ, _ => by simp [setBack]
  | k :: θ, x :: l, σ, hl => by
    simp only [setBack]
    rw [setBack_length f θ l _ (by simpa using hl)]; simp
  | _ :: _, [], σ, hl => by simp at hl

theorem posOf_map_some {n : Nat} : ∀ {θ : List Nat} {i : Nat}, posOf n (θ.map some) = some i → θ[i]? = some n
  | θ, i, h => by
    have := posOf_some h
    rw [List.getElem?_map] at this
    obtain ⟨a, ha, he⟩ := Option.map_eq_some_iff.1 this
    cases he; exact ha

theorem posOf_map_none {n : Nat} {θ : List Nat} (h : posOf n (θ.map some) = none) : n ∉ θ := by
  intro hm
  obtain ⟨i, hi, rfl⟩ := List.getElem_of_mem hm
  exact posOf_none h i (by rw [List.getElem?_map, List.getElem?_eq_getElem hi]; rfl)

theorem distinctS_nodup : ∀ {θ : List Nat}, distinctS (θ.map some) = true → θ.Nodup
  | [], _ => List.nodup_nil
  | n :: θ, h => by
    simp only [List.map_cons, distinctS, Bool.and_eq_true, Option.isNone_iff_eq_none] at h
    exact List.nodup_cons.2 ⟨posOf_map_none h.1, distinctS_nodup h.2⟩

theorem callT_frame {P : Program} {f : FuncId} {args al : List SV} {σ σl : List SObj} {Q : SV → List SObj → Prop} (θ : List Nat) (hC : CallT P f al σl Q) (hd : distinctS (θ.map some) = true) (hlt : θ.all (fun n => decide (n < σ.length)) = true)
    (ha : args.map (SV.mv fun k => posOf k (θ.map some)) = al) (hσ : mvs (θ.map some) σ = σl) :
    CallT P f args σ fun r σ' => ∃ r0 σ0, Q r0 σ0 ∧ r = r0.mv (back θ σ.length) ∧ σ' = setBack (SObj.mv (back θ σ.length)) θ σ0 σ := by
  subst ha hσ
  intro w0 ω0 β Φ ω w vs hR hl hv
  have hnd := distinctS_nodup hd
  have hθ : ∀ k ∈ θ, k < σ.length := fun k hk => by simpa using List.all_eq_true.1 hlt k hk
  let src := θ.map some
  let fω : Nat → Nat := fun k => match k with
    | 0 => 0
    | 1 => 1
    | n + 2 => match posOf n src with | some m => m + 2 | none => 0
  have hRl : Rep w (fun b => fω (ω b)) (mvβ src β) (mvs src σ) Φ (fun b => fω (ω b)) w := by
    refine ⟨rfl, rfl, rfl, Nat.le_refl _, fun b _ h0 => ⟨rfl, h0⟩, fun b o hb => ?_, fun b hb => ?_, by simp [mvβ, mvs], fun m ob v hm hv' => ?_⟩
    · obtain ⟨h1, h2⟩ := hR.fz b o hb
      exact ⟨by simp only [h1]; rfl, h2⟩
    · refine hR.lt b fun e => hb ?_
      simp only [e]; rfl
    · rcases mvs_get hm with ⟨n, hn, rfl⟩ | rfl
      · rw [List.getD_eq_getElem?_getD]
        cases hσ : σ[n]? with
        | none => trivial
        | some ob =>
          obtain ⟨v', hv'', hO⟩ := hR.at_ hσ
          have := mvβ_get hn hv''
          rw [hv'] at this
          cases this
          exact hO.mv mv_rel fun b hb => by
            have hpn : posOf n src = some m := posOf_at hd hn
            simp only [hb, fω]; rw [hpn]
      · trivial
  have hvl : ∀ (j : Nat) x v, (args.map (SV.mv fun k => posOf k src))[j]? = some x → vs[j]? = some v → V (mvβ src β) Φ x v := by
    intro j x v hx hvj
    rw [List.getElem?_map] at hx
    obtain ⟨y, hy, rfl⟩ := Option.map_eq_some_iff.1 hx
    exact (hv j y v hy hvj).mv mv_rel
  refine (hC w _ _ Φ _ w vs hRl (by simpa using hl) hvl).mono fun en w' ⟨r0, v, β', σ0, Φ', ω', he, hb, hle, hvr, hR', hlen, hQ⟩ => ?_
  have hk : θ.length ≤ σ0.length := by simpa [mvs] using hlen
  have hkβ : θ.length ≤ β'.length := by rw [hR'.len]; exact hk
  let N := σ.length
  have hN : β.length = N := hR.len
  let β2 := setBack (fun v : Value => v) θ β' β
  -- the values of names
  have hθβ : ∀ k ∈ θ, k < β.length := fun k hk => by rw [hN]; exact hθ k hk
  have hbk : ∀ (i m : Nat) (u : Value), back θ N i = some m → β'[i]? = some u → isRef u = true → β2[m]? = some u := by
    intro i m u hb' hu _
    unfold back at hb'
    split at hb'
    · have := setBack_at (fun v : Value => v) θ β' β i m hnd hθβ hb' hkβ
      rw [show β2[m]? = _ from this, hu]; rfl
    · cases hb'
      have := setBack_new (fun v : Value => v) θ β' β (i - θ.length) hkβ
      rw [hN] at this
      rw [show β2[N + (i - θ.length)]? = _ from this, show θ.length + (i - θ.length) = i by omega, hu]; rfl
  have hext : BExt β β2 := by
    intro n u hn hr
    have hnl := (List.getElem?_eq_some_iff.1 hn).1
    cases hp : posOf n src with
    | some i =>
      have hi := posOf_map_some hp
      have h1 : (mvβ src β)[i]? = some u := mvβ_get (posOf_some hp) hn
      have h2 := hb i u h1 hr
      have := setBack_at (fun v : Value => v) θ β' β i n hnd hθβ hi hkβ
      rw [show β2[n]? = _ from this, h2]; rfl
    | none => exact (setBack_old (fun v : Value => v) θ β' β n hnl (posOf_map_none hp)).trans hn
  let ω2 : Nat → Nat := fun b => match ω' b with
    | 0 => if b < w.heap.size ∧ fω (ω b) = 0 then ω b else 0
    | 1 => 1
    | i + 2 => match back θ N i with | some m => m + 2 | none => 0
  refine ⟨_, v, β2, _, Φ', ω2, he, hext, hle, hvr.mv hbk, ⟨hR'.os.trans hR.os, hR'.tape.trans hR.tape, hR'.output.trans hR.output, Nat.le_trans hR.size hR'.size, fun b hb0 h0 => ?_, fun b o hbo => ?_, fun b hb0 => ?_, ?_, fun m ob u hm hu => ?_⟩, ?_, r0, σ0, hQ, rfl, rfl⟩
  · obtain ⟨h1, h2⟩ := hR.frame b hb0 h0
    have hz : fω (ω b) = 0 := by rw [h2]
    have hbl : b < w.heap.size := Nat.lt_of_lt_of_le hb0 hR.size
    obtain ⟨h3, h4⟩ := hR'.frame b hbl hz
    refine ⟨h3.trans h1, ?_⟩
    simp only [ω2, h4]
    rw [if_pos ⟨hbl, hz⟩]; exact h2
  · obtain ⟨h1, h2⟩ := hR'.fz b o hbo
    exact ⟨by simp only [ω2, h1], h2⟩
  · cases hw : ω' b with
    | zero =>
      simp only [ω2, hw] at hb0
      split at hb0
      · rename_i hc; exact Nat.lt_of_lt_of_le hc.1 hR'.size
      · exact absurd rfl hb0
    | succ k => exact hR'.lt b (by omega)
  · rw [setBack_length _ _ _ _ hkβ, setBack_length _ _ _ _ hk, hN, hR'.len]
  · by_cases hmN : m < σ.length
    · cases hp : posOf m src with
      | some i =>
        have hi := posOf_map_some hp
        have h1 := setBack_at (SObj.mv (back θ σ.length)) θ σ0 σ i m hnd hθ hi hk
        have h2 := setBack_at (fun v : Value => v) θ β' β i m hnd hθβ hi hkβ
        rw [h1] at hm
        rw [show β2[m]? = _ from h2] at hu
        obtain ⟨ob0, ho0, rfl⟩ := Option.map_eq_some_iff.1 hm
        obtain ⟨u0, hu0, rfl⟩ := Option.map_eq_some_iff.1 hu
        refine (hR'.obj i ob0 _ ho0 hu0).mv hbk fun b hb0 => ?_
        have hil := (List.getElem?_eq_some_iff.1 hi).1
        simp only [ω2, hb0, back]
        rw [if_pos hil, hi]
      | none =>
        have hnm := posOf_map_none hp
        rw [setBack_old _ θ σ0 σ m hmN hnm] at hm
        rw [show β2[m]? = _ from setBack_old (fun v : Value => v) θ β' β m (by omega) hnm] at hu
        refine (hR.obj m ob u hm hu).mono hext hle fun b hb0 => ?_
        have hbl := hR.lt b (by omega)
        have hz : fω (ω b) = 0 := by simp only [hb0, fω, hp]
        obtain ⟨h3, h4⟩ := hR'.frame b hbl hz
        refine ⟨?_, h3⟩
        simp only [ω2, h4]
        rw [if_pos ⟨hbl, hz⟩]; exact hb0
    · obtain ⟨j, rfl⟩ : ∃ j, m = σ.length + j := ⟨m - σ.length, by omega⟩
      rw [setBack_new _ θ σ0 σ j hk] at hm
      have h2 := setBack_new (fun v : Value => v) θ β' β j hkβ
      rw [hN] at h2
      rw [show β2[σ.length + j]? = _ from h2] at hu
      obtain ⟨ob0, ho0, rfl⟩ := Option.map_eq_some_iff.1 hm
      obtain ⟨u0, hu0, rfl⟩ := Option.map_eq_some_iff.1 hu
      refine (hR'.obj (θ.length + j) ob0 _ ho0 hu0).mv hbk fun b hb0 => ?_
      simp only [ω2, hb0, back]
      rw [if_neg (by omega)]
      simp only [N]
      congr 1; omega
  · rw [setBack_length _ _ _ _ hk]; omega
end Go.Nm
