/- Stores, composites, addresses, slices, arithmetic: what they do, by names. -/
import Derived.Test.YteoihmgigmiajaaNm4
import Derived.Laws.Slices
import Derived.IntWalk
set_option linter.all false
set_option linter.unusedSimpArgs false
set_option linter.unusedVariables false
namespace Go.Nm

/-! ### stores -/
theorem wr_get (vs : List SV) (off : Nat) (x : List SV) (hl : off + x.length ≤ vs.length) (j : Nat) :
    (wrCells vs off x)[j]? = if off ≤ j ∧ j < off + x.length then x[j - off]? else vs[j]? := by
  unfold wrCells
  have e1 : (vs.take off).length = off := by simp; omega
  by_cases h1 : j < off
  · rw [if_neg (by omega), List.append_assoc, List.getElem?_append_left (by omega), List.getElem?_take, if_pos h1]
  · by_cases h2 : j < off + x.length
    · rw [if_pos ⟨by omega, h2⟩, List.append_assoc, List.getElem?_append_right (by omega), List.getElem?_append_left (by omega), e1]
    · rw [if_neg (by omega), List.getElem?_append_right (by simp; omega), List.getElem?_drop]
      congr 1
      simp; omega

theorem wr_length (vs : List SV) (off : Nat) (x : List SV) (hl : off + x.length ≤ vs.length) : (wrCells vs off x).length = vs.length := by
  unfold wrCells; simp; omega

/-- the row after cells are stored -/
theorem row_get (cur : Array Value) (off : Nat) (x : List Value) (hl : off + x.length ≤ cur.size) (j : Nat) :
    ((cur.toList.take (off + 0) ++ x ++ cur.toList.drop (off + 0 + x.length)).toArray)[j]? = if off ≤ j ∧ j < off + x.length then x[j - off]? else cur[j]? := by
  have e1 : (cur.toList.take (off + 0)).length = off := by simp; omega
  rw [List.getElem?_toArray]
  by_cases h1 : j < off
  · rw [if_neg (by omega), List.append_assoc, List.getElem?_append_left (by omega), List.getElem?_take, if_pos (by omega)]; simp
  · by_cases h2 : j < off + x.length
    · rw [if_pos ⟨by omega, h2⟩, List.append_assoc, List.getElem?_append_right (by omega), List.getElem?_append_left (by omega), e1]
    · rw [if_neg (by omega), List.getElem?_append_right (by simp; omega), List.getElem?_drop]
      simp only [List.length_append, e1, Array.getElem?_toList]
      congr 1; omega

theorem run_storeVar {P : Program} {t : TypeId} {ti : TI} (ht : tiOf P t = some ti) {w : World} {b off : Nat} {cs : Array Value} {T : TypeId} (hh : w.heap[b]? = some (.cells cs T (0, 0))) {v : Value}
    (hs : v.cells.size = ti.size) (h1 : ∀ u ∈ v.cells.toList, u.oneCell' = true) (hl : off + ti.size ≤ cs.size) :
    (storeVar t ⟨b, off, none⟩ v).run P w = .ok () (w.setRow b (cs.toList.take (off + 0) ++ v.cells.toList ++ cs.toList.drop (off + 0 + v.cells.toList.length)).toArray) := by
  unfold storeVar
  rw [if_neg_run ht hs]
  exact run_storeCells_at (P := P) b off T v.cells.toList 0 cs w hh (by simp [hs]; omega) h1
where
  if_neg_run {P : Program} {t : TypeId} {ti : TI} (ht : tiOf P t = some ti) {w : World} {v : Value} (hs : v.cells.size = ti.size) {k : Sem Unit} :
      (do if v.cells.size ≠ (← sizeOf t) then stuck "storeVar: the value has not the size of the variable"
          k : Sem Unit).run P w = k.run P w := by
    simp [run_sizeOf ht, hs]

section
variable {w0 : World} {ω0 : Nat → Nat} {β : List Value} {σ : List SObj} {Φ : Fz} {ω : Nat → Nat} {w : World}

theorem set_same {β : List Value} {n : Nat} {v : Value} (h : β[n]? = some v) : β.set n v = β := by
  apply List.ext_getElem?
  intro i
  by_cases e : i = n
  · subst e
    rw [List.getElem?_set_self (List.getElem?_eq_some_iff.1 h).1, h]
  · rw [List.getElem?_set_ne (fun h => e h.symm)]

/-- the object of a name, turned in place -/
theorem Rep.turn (h : Rep w0 ω0 β σ Φ ω w) {n b : Nat} {ob ob' : SObj} {v : Value} (hn : σ[n]? = some ob) (hv : β[n]? = some v) (hb : ω b = n + 2) {w' : World}
    (ho : w'.os = w.os) (ht : w'.tape = w.tape) (hu : w'.output = w.output) (hs : w'.heap.size = w.heap.size) (oth : ∀ k, k ≠ b → w'.heap[k]? = w.heap[k]?)
    (hob : O β Φ w'.heap ω n ob' v) : Rep w0 ω0 β (σ.set n ob') Φ ω w' := by
  have hlt : n < σ.length := (List.getElem?_eq_some_iff.1 hn).1
  have e := set_same hv
  have hob2 : O (β.set n v) Φ w'.heap ω n ob' v := by rw [e]; exact hob
  have := h.upd (n := n) (ob' := ob') (v' := v) (w' := w') (ω' := ω) (Φ' := Φ) hlt ho ht hu (Nat.le_of_eq hs.symm) (fun u hu _ => by rw [hv] at hu; exact Option.some.inj hu)
    (fun k hk hne => ⟨oth k (fun e => hne (e ▸ hb)), rfl⟩) (fun k hk => by rw [hs]; exact h.lt k hk) (Fz.le_refl _)
    (fun k o hk => by
      obtain ⟨h1, h2⟩ := h.fz k o hk
      exact ⟨h1, by rw [oth k (fun e => by subst e; omega)]; exact h2⟩) hob2
  rw [e] at this
  exact this

theorem Rep.store_cells (h : Rep w0 ω0 β σ Φ ω w) {n off : Nat} {vs xs : List SV} (hn : σ[n]? = some (.cells vs)) {us : List Value} (hl : us.length = xs.length) (hu : ∀ (j : Nat) x u, xs[j]? = some x → us[j]? = some u → V β Φ x u)
    (hoff : off + xs.length ≤ vs.length) : ∃ b cs T, β[n]? = some (.pointer (some ⟨b, 0, none⟩)) ∧ w.heap[b]? = some (.cells cs T (0, 0)) ∧ cs.size = vs.length ∧
      Rep w0 ω0 β (σ.set n (.cells (wrCells vs off xs))) Φ ω (w.setRow b (cs.toList.take (off + 0) ++ us ++ cs.toList.drop (off + 0 + us.length)).toArray) := by
  obtain ⟨b, cs, T, hβ, hω, hh, hs, hj, _⟩ := cellsAt_p h hn
  refine ⟨b, cs, T, hβ, hh, hs, ?_⟩
  refine h.turn hn hβ hω rfl rfl rfl (by simp) (fun k hk => setRow_other w b k _ hk) ?_
  refine ⟨b, _, T, rfl, hω, setRow_heap w b cs _ T (0, 0) hh, ?_, fun j x u hx hu' => ?_⟩
  · rw [wr_length _ _ _ hoff]; simp; omega
  · rw [wr_get _ _ _ hoff] at hx
    rw [row_get cs off us (by omega)] at hu'
    rw [hl] at hu'
    by_cases hc : off ≤ j ∧ j < off + xs.length
    · rw [if_pos hc] at hx hu'; exact hu _ x u hx hu'
    · rw [if_neg hc] at hx hu'; exact hj j x u hx hu'
end

theorem setAll_one (σ : List SObj) (n : Nat) (ob : SObj) : setAll σ [(n, ob)] = σ.set n ob := rfl

theorem pures_ok : ∀ {l : List SV} {r : List PV}, pures l = some r → l = r.map .u
  | [], r, h => by cases h; rfl
  | x :: l, r, h => by
    unfold pures at h
    split at h
    · rename_i y l' h1 h2
      cases h
      cases x <;> simp [SV.pure?] at h1
      subst h1
      rw [pures_ok h2]; rfl
    · cases h

theorem op_store {P : Program} {o : Oper} {g : Operand → SV} {t : TypeId} {x y : Operand} {ti : TI} (ho : o.op = .store t x y) (ht : tiOf P t = some ti) {σf : Nat → SObj} {ob : Prop} {rd : List (Nat × SObj)} {r : SV} {wr : List (Nat × SObj)}
    (he : evStore σf ti (g x) (g y) = .ok ob rd r wr) (hob : ob) : OpR P o g rd r wr := by
  have hex : ∀ (ρ : Operand → Value) (a : Addr) (w w' : World), ρ x = .pointer (some a) → (storeVar t a (ρ y)).run P w = .ok () w' → (execOp ρ o).run P w = .ok .skip w' := by
    intro ρ a w w' h1 h2
    simp only [execOp, ho, Instr.storeAt, h1, Instr.sureAddr, Sem.run_bind, Sem.run_pure, Result.andThen_ok, h2]
  unfold evStore at he
  split at he
  · rename_i n off hx
    split at he
    · rename_i vs hσ
      cases he
      obtain ⟨h1, h2, h3⟩ := hob
      intro w0 ω0 β Φ ω σ w ρ hR hg hrd
      obtain ⟨hs, hj, hone⟩ := (hg y).cells h3
      obtain ⟨b, cs, T, hβ, hh, hcs, hR'⟩ := hR.store_cells (off := off) (hrd n (.cells vs) (by simp)) (us := (ρ y).cells.toList) (xs := (g y).cells) (by simpa using hs) (fun j u v hu hv => hj j u v hu (by simpa using hv)) (by omega)
      obtain ⟨a, ha, hv⟩ := (hx ▸ hg x : V β Φ (.p n off) (ρ x)).inv_p
      rw [hβ] at ha; cases ha
      have hst := run_storeVar (P := P) ht (off := off) hh (v := ρ y) (by omega) hone (by omega)
      refine ⟨.skip, undef, _, β, Φ, ω, hex ρ _ w _ hv ?_, .inr ⟨rfl, rfl⟩, BExt.refl _, rfl, Fz.le_refl _, .j _, hR'⟩
      rw [Addr.add_lit, Nat.zero_add]
      exact hst
    · cases he
  · rename_i n sz i off hx
    split at he
    · rename_i T s els l hσ hp
      cases he
      obtain ⟨rfl, hi, hl, h2, h3⟩ := hob
      have hpl := pures_ok hp
      intro w0 ω0 β Φ ω σ w ρ hR hg hrd
      obtain ⟨hs, hj, hone⟩ := (hg y).cells h3
      have hn := hrd n (.row T s els) (by simp)
      obtain ⟨v, hβ, hO⟩ := hR.at_ hn
      rcases hO with ⟨_, _, rfl⟩ | ⟨b, cap, cs, rfl, hω, hh, hcs, hcl, hm, he', hjj⟩
      · simp at hi
      · have hei : els[i]? = some (els[i]) := List.getElem?_eq_getElem hi
        have hgd : els.getD i [] = els[i] := by rw [List.getD_eq_getElem?_getD, hei]; rfl
        have hlen : els[i].length = s := he' _ (List.getElem_mem hi)
        have hpl' : (g y).cells.length = l.length := by rw [hpl]; simp
        have hbd : i * s + off + (ρ y).cells.toList.length ≤ cs.size := by
          rw [hcs]
          have : (i + 1) * s ≤ cap * s := Nat.mul_le_mul_right _ (by omega)
          rw [Nat.succ_mul] at this; simp; omega
        obtain ⟨a, l', c', ha, hv⟩ := (hx ▸ hg x : V β Φ (.rp n s i off) (ρ x)).inv_rp
        rw [hβ] at ha; cases ha
        have hst := run_storeVar (P := P) ht (off := i * s + off) hh (v := ρ y) (by omega) hone (by simp at hbd; omega)
        rw [Addr.add_lit, Nat.zero_add] at hv
        refine ⟨.skip, undef, _, β, Φ, ω, hex ρ _ w _ hv hst, .inr ⟨rfl, rfl⟩, BExt.refl _, rfl, Fz.le_refl _, .j _, ?_⟩
        · rw [setAll_one]
          refine hR.turn hn hβ hω rfl rfl rfl (by simp) (fun k hk => setRow_other w b k _ hk) ?_
          rw [hgd]
          refine .inr ⟨b, cap, _, by simp, hω, setRow_heap w b cs _ T (0, 0) hh, by simp at hbd ⊢; omega, by simpa using hcl, hm, ?_, ?_⟩
          · intro e hem
            rcases List.mem_or_eq_of_mem_set hem with h | h
            · exact he' e h
            · subst h; simp; omega
          · intro k e j z u hk hz hu
            rw [row_get cs (i * s + off) _ hbd] at hu
            by_cases hki : k = i
            · subst hki
              rw [List.getElem?_set_self hi] at hk
              cases hk
              have hzlt := (List.getElem?_eq_some_iff.1 hz).1
              have hjs : j < s := by simp at hzlt; omega
              have e2 : List.take off els[k] ++ l ++ List.drop (off + l.length) els[k] = (List.take off els[k] ++ (l ++ List.drop (off + l.length) els[k])) := by simp
              have elen : (List.take off els[k]).length = off := by simp; omega
              by_cases hc : off ≤ j ∧ j < off + l.length
              · rw [if_pos (by simp; omega)] at hu
                rw [e2, List.getElem?_append_right (by omega), List.getElem?_append_left (by omega), elen] at hz
                have := hj (j - off) (.u z) u (by rw [hpl, List.getElem?_map, hz]; rfl) (by simpa [show k * s + j - (k * s + off) = j - off by omega] using hu)
                cases this with | u _ _ h => exact h
              · rw [if_neg (by simp; omega)] at hu
                refine hjj k _ j z u hei ?_ hu
                by_cases hlo : j < off
                · rw [e2, List.getElem?_append_left (by omega), List.getElem?_take, if_pos hlo] at hz; exact hz
                · rw [List.getElem?_append_right (by simp; omega), List.getElem?_drop] at hz
                  rw [← hz]; congr 1; simp; omega
            · rw [List.getElem?_set_ne (fun h => hki h.symm)] at hk
              have hkl := (List.getElem?_eq_some_iff.1 hk).1
              have hjs : j < s := by
                have h1 := (List.getElem?_eq_some_iff.1 hz).1
                have h2 := he' e (List.mem_of_getElem? hk)
                omega
              have hne : ¬ (i * s + off ≤ k * s + j ∧ k * s + j < i * s + off + (ρ y).cells.toList.length) := by
                intro ⟨q1, q2⟩
                simp at q2
                rcases Nat.lt_or_gt_of_ne hki with h | h
                · have : (k + 1) * s ≤ i * s := Nat.mul_le_mul_right _ h
                  rw [Nat.succ_mul] at this; omega
                · have : (i + 1) * s ≤ k * s := Nat.mul_le_mul_right _ h
                  rw [Nat.succ_mul] at this; omega
              rw [if_neg hne] at hu
              exact hjj k e j z u hk hz hu
    · cases he
  · cases he
end Go.Nm
