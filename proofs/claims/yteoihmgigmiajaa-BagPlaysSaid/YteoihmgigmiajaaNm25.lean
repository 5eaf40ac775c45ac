/- A row that is never written again is a pure value. -/
import Derived.Test.YteoihmgigmiajaaNm24
set_option linter.all false
set_option linter.unusedSimpArgs false
set_option linter.unusedVariables false
namespace Go.Nm

def SV.frz (n sz : Nat) (els : List (List PV)) : SV → SV
  | .u x => .u x
  | .p m off => .p m off
  | .rp m s i off => if m = n then .j else .rp m s i off
  | .sl m s lo hi => if m = n then (if s = sz ∧ hi ≤ els.length then .u (.fz ((els.drop lo).take (hi - lo)) none) else .j) else .sl m s lo hi
  | .h m => if m = n then .u (.fz els none) else .h m
  | .fn f caps => .fn f (caps.map (SV.frz n sz els))
  | .agg cs => .agg (cs.map (SV.frz n sz els))
  | .tup cs => .tup (cs.map (SV.frz n sz els))
  | .gd k c x => .gd k c (SV.frz n sz els x)
  | .j => .j

def SObj.frz (n sz : Nat) (els : List (List PV)) : SObj → SObj
  | .cells vs => .cells (vs.map (SV.frz n sz els))
  | .row e s l => .row e s l
  | .buf e s es => .buf e s es
  | .map es => .map es
  | .dead => .dead
  | .unborn => .unborn

theorem V.frz {β : List Value} {Φ Φ' : Fz} (hle : Φ.le Φ') {n sz : Nat} {els : List (List PV)} (hn : ∀ v, β[n]? = some v → VP Φ' (.fz els none) v) (hes : ∀ e ∈ els, e.length = sz) {x : SV} {v : Value} (h : V β Φ x v) : V β Φ' (x.frz n sz els) v := by
  induction h with
  | u x v h => rw [SV.frz]; exact .u x v (h.mono hle)
  | p m off a h => rw [SV.frz]; exact .p m off a h
  | rp m sz i off a l c h =>
    rw [SV.frz]
    split
    · exact .j _
    · exact .rp m sz i off a l c h
  | sl m s lo hi a a' l c h h1 h2 ha =>
    rw [SV.frz]
    split
    · rename_i e; subst e
      split
      · rename_i hc
        obtain ⟨rfl, htop⟩ := hc
        have hlen : ((els.drop lo).take (hi - lo)).length = hi - lo := by simp; omega
        obtain ⟨sz', aa, cap, f, hv, q1, q2, q3, q4, q5, q6, q7⟩ := (V.u (β := β) _ _ (hn _ h)).inv_fz
        cases hv
        have hget : ∀ (i : Nat) e, ((els.drop lo).take (hi - lo))[i]? = some e → els[lo + i]? = some e ∧ lo + i < hi := by
          intro i e he
          have hi' := (List.getElem?_eq_some_iff.1 he).1
          rw [hlen] at hi'
          rw [List.getElem?_take, if_pos hi', List.getElem?_drop] at he
          exact ⟨he, by omega⟩
        have key := VP.fz (Φ := Φ') s ((els.drop lo).take (hi - lo)) none (some a') (c - lo) (fun i j => f (lo + i) j) (fun e he => hes e (List.mem_of_mem_drop (List.mem_of_mem_take he))) (by omega) (by omega) (by simp) (fun _ => rfl) (fun i e j x ad h3 h4 h5 => by
          cases h5
          obtain ⟨k1, k2⟩ := hget i e h3
          have hsz : sz' = s := by rw [← q1 e (List.mem_of_getElem? k1), hes e (List.mem_of_getElem? k1)]
          subst hsz
          rw [ha (by omega), add_add, show lo * sz' + (i * sz' + j) = (lo + i) * sz' + j by rw [Nat.add_mul]; omega]
          exact q6 (lo + i) e j x a k1 h4 rfl) (fun i e j x h3 h4 => q7 _ e j x (hget i e h3).1 h4)
        rw [hlen] at key
        exact .u _ _ key
      · exact .j _
    · exact .sl m s lo hi a a' l c h h1 h2 ha
  | h m v h hr =>
    rw [SV.frz]
    split
    · rename_i e; subst e; exact .u _ _ (hn v h)
    · exact .h m v h hr
  | fn f caps vs hl _ ih =>
    rw [SV.frz]
    refine .fn f _ vs (by simpa using hl) fun j x v hx hv => ?_
    rw [List.getElem?_map] at hx
    obtain ⟨y, hy, rfl⟩ := Option.map_eq_some_iff.1 hx
    exact ih j y v hy hv
  | agg cs vs hl _ ih =>
    rw [SV.frz]
    refine .agg _ vs (by simpa using hl) fun j x v hx hv => ?_
    rw [List.getElem?_map] at hx
    obtain ⟨y, hy, rfl⟩ := Option.map_eq_some_iff.1 hx
    exact ih j y v hy hv
  | tup cs vs hl _ ih =>
    rw [SV.frz]
    refine .tup _ vs (by simpa using hl) fun j x v hx hv => ?_
    rw [List.getElem?_map] at hx
    obtain ⟨y, hy, rfl⟩ := Option.map_eq_some_iff.1 hx
    exact ih j y v hy hv
  | gd k c x v _ h0 ih => rw [SV.frz]; exact .gd k c _ v ih h0
  | j v => rw [SV.frz]; exact .j v

/-- an environment, written out, in which a row has become a value -/
def subF (n sz : Nat) (els : List (List PV)) (e : Env) : Env → Prop
  | [] => True
  | (d, x) :: r => (e.get d).frz n sz els = x ∧ subF n sz els e r

theorem subF_ok {n sz : Nat} {els : List (List PV)} {e : Env} : ∀ {e' : Env}, subF n sz els e e' → ∀ t, e'.get t = .j ∨ e'.get t = (e.get t).frz n sz els
  | [], _, t => .inl rfl
  | (d, x) :: r, h, t => by
    simp only [Env.get]
    by_cases hd : d = t
    · subst hd; rw [if_pos rfl]; exact .inr h.1.symm
    · rw [if_neg hd]; exact subF_ok h.2 t

theorem entF {c : Cx} {e e' : Env} {σ σ' : List SObj} (n : Nat) {T : TypeId} {sz : Nat} {els : List (List PV)} (hσ : σ[n]? = some (.row T sz els)) (hs : subF n sz els e e') (hσ' : (σ.set n .dead).map (SObj.frz n sz els) = σ') : Ent c e σ e' σ' := by
  subst hσ'
  rintro a w ⟨β, Φ, ω, h1, h2, h3, h4, h5, h6⟩
  obtain ⟨v, hv, hO⟩ := h6.at_ hσ
  have key : ∀ (Φ' : Fz) (ω' : Nat → Nat), Φ.le Φ' → (∀ b o, Φ' b = some o → ω' b = 1 ∧ w.heap[b]? = some o) → (∀ b, ω b ≠ n + 2 → ω' b = ω b) → (∀ b, ω' b ≠ 0 → ω b ≠ 0) → VP Φ' (.fz els none) v → (∀ e ∈ els, e.length = sz) →
      St c e' ((σ.set n .dead).map (SObj.frz n sz els)) a w := by
    intro Φ' ω' hle hfz hω hlt hvp hes
    have hn : ∀ u, β[n]? = some u → VP Φ' (.fz els none) u := fun u hu => by rw [hv] at hu; cases hu; exact hvp
    refine ⟨β, Φ', ω', h1, Fz.le_trans h2 hle, h3, h4, fun t => ?_, ⟨h6.os, h6.tape, h6.output, h6.size, fun b hb h0 => ?_, hfz, fun b hb => h6.lt b (hlt b hb), by simp [h6.len], fun m ob u hm hu => ?_⟩⟩
    · rcases subF_ok hs t with h | h
      · rw [h]; exact .j _
      · rw [h]; exact (h5 t).frz hle hn hes
    · obtain ⟨k1, k2⟩ := h6.frame b hb h0
      exact ⟨k1, (hω b (by omega)).trans k2⟩
    · rw [List.getElem?_map] at hm
      obtain ⟨o, ho, rfl⟩ := Option.map_eq_some_iff.1 hm
      by_cases he : m = n
      · subst he
        rw [List.getElem?_set_self (List.getElem?_eq_some_iff.1 hσ).1] at ho
        cases ho; trivial
      · rw [List.getElem?_set_ne (fun h => he h.symm)] at ho
        have hO' := h6.obj m o u ho hu
        have hw' : ∀ b, ω b = m + 2 → ω' b = m + 2 := fun b hb => by rw [hω b (by omega)]; exact hb
        cases o with
        | cells vs =>
          obtain ⟨b, cs, Tt, hv', hw, hc, hs', hj⟩ := hO'
          refine ⟨b, cs, Tt, hv', hw' b hw, hc, by simpa using hs', fun j x y hx hy => ?_⟩
          rw [List.getElem?_map] at hx
          obtain ⟨z, hz, rfl⟩ := Option.map_eq_some_iff.1 hx
          exact (hj j z y hz hy).frz hle hn hes
        | row T' sz' l =>
          rcases hO' with h | ⟨b, cap, cs, hv', hw, hc, hs', hl, hm', he', hj⟩
          · exact .inl h
          · exact .inr ⟨b, cap, cs, hv', hw' b hw, hc, hs', hl, hm', he', fun i e j x y a1 a2 a3 => (hj i e j x y a1 a2 a3).mono hle⟩
        | buf T' sz' l =>
          obtain ⟨b, ln, cs, hv', hw, hc, hs', hl, hm', he', hj⟩ := hO'
          exact ⟨b, ln, cs, hv', hw' b hw, hc, hs', hl, hm', he', fun i e j x y a1 a2 a3 => (hj i e j x y a1 a2 a3).mono hle⟩
        | map es =>
          obtain ⟨r, es', ck, hv', hw, hc, hs', hst, hj⟩ := hO'
          exact ⟨r, es', ck, hv', hw' r hw, hc, hs', hst, fun i k x e a1 a2 => ⟨(hj i k x e a1 a2).1.mono hle, (hj i k x e a1 a2).2.mono hle⟩⟩
        | dead => trivial
        | unborn => exact hO'
  rcases hO with ⟨ad, rfl, rfl⟩ | ⟨b, cap, cs, rfl, hw, hc, hs', hl, hm, he, hj⟩
  · exact key Φ ω (Fz.le_refl _) h6.fz (fun _ _ => rfl) (fun _ h => h) (.fz 0 [] none ad 0 (fun _ _ => .bool false) (by simp) (by simp) (Nat.zero_le _) (by simp) (by simp) (by simp) (by simp)) (by simp)
  · have hΦb : Φ b = none := by
      cases hb : Φ b with
      | none => rfl
      | some o => have := (h6.fz b o hb).1; omega
    refine key (fun x => if x = b then some (.cells cs T (0, 0)) else Φ x) (fun x => if x = b then 1 else ω x) (fun x o hx => ?_) (fun x o hx => ?_) (fun x hx => ?_) (fun x hx => ?_)
      (.fz sz els none (some ⟨b, 0, none⟩) cap (fun i j => (cs[i * sz + j]?).getD (.bool false)) he hl hm (by simp) (fun _ => rfl) (fun i e j x ad hi hj' had => ?_) (fun i e j x hi hj' => ?_)) he
    · have : x ≠ b := by intro h; subst h; rw [hΦb] at hx; cases hx
      simp only [if_neg this]; exact hx
    · by_cases hxb : x = b
      · subst hxb
        simp only [if_true] at hx ⊢
        cases hx; exact ⟨trivial, hc⟩
      · simp only [if_neg hxb] at hx ⊢; exact h6.fz x o hx
    · have : x ≠ b := by intro h; subst h; exact hx hw
      simp only [if_neg this]
    · by_cases hxb : x = b
      · subst hxb; omega
      · simp only [if_neg hxb] at hx; exact hx
    · cases had
      have hin : i * sz + j < cs.size := by
        rw [hs']
        have hil := (List.getElem?_eq_some_iff.1 hi).1
        have hjl := (List.getElem?_eq_some_iff.1 hj').1
        have := he e (List.mem_of_getElem? hi)
        exact mul_lt_of (Nat.lt_of_lt_of_le hil hl) (by omega)
      have ea : (⟨b, 0, none⟩ : Addr).add (i * sz + j) = ⟨b, i * sz + j, none⟩ := by
        unfold Addr.add
        split
        · rename_i h; simp only [h]
        · simp
      rw [ea]
      simp [Fz.cell, hin]
    · have hin : i * sz + j < cs.size := by
        rw [hs']
        have hil := (List.getElem?_eq_some_iff.1 hi).1
        have hjl := (List.getElem?_eq_some_iff.1 hj').1
        have := he e (List.mem_of_getElem? hi)
        exact mul_lt_of (Nat.lt_of_lt_of_le hil hl) (by omega)
      have h := hj i e j x cs[i * sz + j] hi hj' (Array.getElem?_eq_getElem hin)
      simp only [Array.getElem?_eq_getElem hin, Option.getD_some]
      refine h.mono fun y o hy => ?_
      have : y ≠ b := by intro h; subst h; rw [hΦb] at hy; cases hy
      simp only [if_neg this]; exact hy

attribute [go_sem] SV.frz SObj.frz subF
end Go.Nm
