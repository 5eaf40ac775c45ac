/- The rule of a region that draws its order, at last. -/
import Derived.Test.YteoihmgigmiajaaNm18
set_option linter.all false
set_option linter.unusedSimpArgs false
set_option linter.unusedVariables false
namespace Go.Nm

theorem Rep.drewN {w0 : World} {ω0 : Nat → Nat} {β : List Value} {σ : List SObj} {Φ : Fz} {ω : Nat → Nat} {w : World} (h : Rep w0 ω0 β σ Φ ω w) (n : Nat) : Rep w0 ω0 β σ Φ ω { w with drawn := n } :=
  ⟨h.os, h.tape, h.output, h.size, h.frame, h.fz, h.lt, h.len, h.obj⟩

theorem St.drew {c : Cx} {e : Env} {σ : List SObj} {a : Act} {w : World} (h : St c e σ a w) (n : Nat) : St c e σ a { w with drawn := n } := by
  obtain ⟨β, Φ, ω, h1, h2, h3, h4, h5, h6⟩ := h
  exact ⟨β, Φ, ω, h1, h2, h3, h4, h5, h6.drewN n⟩

theorem St.same {c : Cx} {e e' : Env} {σ : List SObj} {a : Act} {w : World} (h : St c e σ a w) (he : ∀ t, e.get t = e'.get t) : St c e' σ a w := by
  obtain ⟨β, Φ, ω, h1, h2, h3, h4, h5, h6⟩ := h
  exact ⟨β, Φ, ω, h1, h2, h3, h4, fun t => by rw [← he]; exact h5 t, h6⟩

theorem count_set : ∀ (l : List Bool) (j : Nat), l[j]? = some false → (l.set j true).count false + 1 = l.count false
  | b :: l, 0, h => by simp at h; subst h; simp
  | b :: l, j + 1, h => by
    have := count_set l j (by simpa using h)
    rw [List.set_cons_succ, List.count_cons, List.count_cons]; omega

def doneOf (listed : Array Bool) (i : Nat) : Bool := listed.getD i false

theorem done_set {listed : Array Bool} {j : Nat} (h : j < listed.size) : doneOf (listed.setIfInBounds j true) = addD (doneOf listed) j := by
  funext i
  unfold doneOf addD
  by_cases hij : i = j
  · subst hij; simp [h]
  · rw [getD_set_ne false (Ne.symm hij)]
    have : (i == j) = false := by simpa using hij
    rw [this, Bool.false_or]

section
variable {P : Program} {c : Cx} {ops : Array Oper} {e0 : Env} {σ0 : List SObj} {rs : List Rc} {Q : Exit → Act → World → Prop}

theorem all_done (hs : drawOK ops = true) {listed : Array Bool} (hsz : listed.size = ops.size) (hr : Region.ready .any ops listed = []) : ∀ i, i < ops.size → doneOf listed i = true := by
  intro i
  induction i using Nat.strongRecOn with
  | _ i ih =>
    intro hi
    cases hd : doneOf listed i with
    | true => rfl
    | false =>
      have ho : ops[i]? = some ops[i] := Array.getElem?_eq_getElem hi
      have : i ∈ Region.ready .any ops listed := mem_ready.2 ⟨by
        unfold doneOf at hd
        rw [Array.getD_eq_getD_getElem?, Array.getElem?_eq_getElem (by omega)] at hd ⊢
        simpa using hd, _, ho, fun e he hb => ih e.on (drawOK_back hs ho e (by simpa using he) hb) (by have := drawOK_back hs ho e (by simpa using he) hb; omega)⟩
      rw [hr] at this
      cases this

theorem draw_any (hs : drawOK ops = true) (hg : GoodR P c ops e0 σ0 rs) (hl : rs.length = ops.size) (hQ : ∀ a w, St c (envTo rs e0) (memTo rs σ0) a w → Q .normal a w) :
    ∀ (fuel : Nat) (listed : Array Bool) (e : Env) (σ : List SObj) (a : Act) (w : World), listed.size = ops.size → listed.toList.count false = fuel → Closed (masksOf ops.toList []) (doneOf listed) →
    InD rs e0 σ0 (doneOf listed) e σ → St c e σ a w → wpAny P .any ops Q fuel listed a w := by
  have fin : ∀ (listed : Array Bool) (e : Env) (σ : List SObj) (a : Act) (w : World), (∀ i, i < ops.size → doneOf listed i = true) → InD rs e0 σ0 (doneOf listed) e σ → St c e σ a w → Q .normal a w := by
    rintro listed e σ a w hall ⟨h1, h2, h3⟩ hst
    refine hQ a w ?_
    have hσ : σ = memTo rs σ0 := by
      apply List.ext_getElem?
      intro n
      by_cases hn : n < σ0.length
      · rw [h3 n hn, memTo_get rs 0 σ0 (doneOf listed) n hn (fun i _ h => hall i (by omega))]; rfl
      · rw [List.getElem?_eq_none (by omega), List.getElem?_eq_none (by rw [memTo_length]; omega)]
    subst hσ
    refine hst.same fun t => ?_
    rw [h1, envTo_get rs 0 e0 (doneOf listed) t (fun i _ h => hall i (by omega))]; rfl
  intro fuel
  induction fuel with
  | zero =>
    intro listed e σ a w hsz hcnt hcl hI hst
    have hall : ∀ i, i < ops.size → doneOf listed i = true := by
      intro i hi
      have : listed[i]'(by omega) ≠ false := fun h => by
        have hm : false ∈ listed.toList := by
          rw [← h]; simp
        exact absurd hcnt (Nat.ne_of_gt (List.count_pos_iff.2 hm))
      unfold doneOf
      rw [Array.getD_eq_getD_getElem?, Array.getElem?_eq_getElem (by omega)]
      simpa using this
    refine ⟨?_, fin listed e σ a w hall hI hst⟩
    cases hr : Region.ready .any ops listed with
    | nil => rfl
    | cons j r =>
      have hj : j ∈ Region.ready .any ops listed := by rw [hr]; simp
      obtain ⟨h0, o, ho, _⟩ := mem_ready.1 hj
      have hjl := (Array.getElem?_eq_some_iff.1 ho).1
      have := hall j hjl
      unfold doneOf at this
      rw [Array.getD_eq_getD_getElem?, Array.getElem?_eq_getElem (by omega)] at h0 this
      simp at h0 this; rw [h0] at this; cases this
  | succ fuel ih =>
    intro listed e σ a w hsz hcnt hcl hI hst
    refine ⟨fun hr => fin listed e σ a w (all_done hs hsz hr) hI hst, fun j hj => ?_⟩
    obtain ⟨h0, o, ho, hpre⟩ := mem_ready.1 hj
    have hjl := (Array.getElem?_eq_some_iff.1 ho).1
    have hq : rs[j]? = some (rs[j]'(by omega)) := List.getElem?_eq_getElem (by omega)
    generalize rs[j]'(by omega) = q at hq
    have hoq := hg.op j q hq
    rw [ho] at hoq; cases hoq
    have hjD : doneOf listed j = false := by
      unfold doneOf
      rw [Array.getD_eq_getD_getElem?, Array.getElem?_eq_getElem (by omega)] at h0 ⊢
      simpa using h0
    obtain ⟨k1, k2, k3, k4⟩ := inD_step hs hg hcl hI hq hjD (fun e he hb => hpre e he hb)
    have hlen : (memTo (rs.take j) σ0).length = σ0.length := memTo_length _ _
    have hS := hg.step j q hq e σ a w (wpAny P .any ops Q fuel (listed.setIfInBounds j true)) Q k1 (fun n hn => by
      by_cases hnl : n < σ0.length
      · exact k2 n hn hnl
      · rw [List.getElem?_eq_none (by have := hI.2.1; omega), List.getElem?_eq_none (by omega)]) hst fun a' w' hst' => ?_
    · unfold wpOp
      simp only [ho]
      split
      · rename_i hw; rw [if_pos hw] at hS; exact .inl hS
      · rename_i hw; rw [if_neg hw] at hS; exact hS
    · refine ih _ _ _ a' w' (by simpa using hsz) ?_ (by rw [done_set (by omega)]; exact k4) (by rw [done_set (by omega)]; exact k3) hst'
      have h1 : listed.toList[j]? = some false := by
        rw [Array.getElem?_toList, Array.getElem?_eq_getElem (by omega)]
        unfold doneOf at hjD
        rw [Array.getD_eq_getD_getElem?, Array.getElem?_eq_getElem (by omega)] at hjD
        simpa using hjD
      have := count_set _ _ h1
      rw [Array.toList_setIfInBounds]
      omega
end

theorem wps_draw {P : Program} {c : Cx} {e : Env} {σ : List SObj} {Q : Exit → Env → List SObj → Prop} {id : Nat} {ops : Array Oper} (hm : P.follows .mixedOrders = true) (hd : dstOK c.nt ops = true) (hs : drawOK ops = true) (k : Nat)
    (h : evDraw P (slotOf ops) (masksOf ops.toList []) ops.toList 0 e (σ ++ List.replicate k .unborn) σ.length [] fun e' σ' => Q .normal e' σ') : WPS P c (.region id ops true) e σ Q := by
  intro a w hst
  obtain ⟨rs, hg, hl, hK⟩ := evDraw_good (c := c) (e0 := e) (σ0 := σ ++ List.replicate k .unborn) (dstOK_slot hd) ops.toList [] σ.length rfl (by simp) ⟨fun j q h => by simp at h, fun j q h => by simp at h, fun j q i p h => by simp at h⟩ h
  refine wp_region_any hm ?_
  refine draw_any hs hg hl (fun a w hst => ⟨_, _, hst, hK⟩) ops.size _ e (σ ++ List.replicate k .unborn) a _ (by simp) (by simp) (fun j i hj => ?_) ⟨fun t => ?_, rfl, fun n hn => ?_⟩ ((hst.reserve k).drew _)
  · unfold doneOf at hj
    by_cases h : j < ops.size
    · simp [h] at hj
    · simp [h] at hj
  · unfold slotAt
    rw [runC_off]
    intro i ws _ _
    unfold doneOf
    by_cases h : i < ops.size
    · simp [h]
    · simp [h]
  · unfold nameAt
    rw [runC_off]
    · rw [List.getD_eq_getElem?_getD, List.getElem?_eq_getElem hn]; rfl
    · intro i ws _ _
      unfold doneOf
      by_cases h : i < ops.size
      · simp [h]
      · simp [h]

end Go.Nm
