/- append, slice literals, conversions, continued. -/
import Derived.Test.YteoihmgigmiajaaNm10
import Derived.Laws.IdiomStrings
set_option linter.all false
set_option linter.unusedSimpArgs false
set_option linter.unusedVariables false
namespace Go.Nm

theorem run_append_fits_at {P : Program} {t t2 ty e : TypeId} {i : TypeInfo} (ht : P.underlying t = some (.slice e)) (ht2 : P.underlying t2 = some .string ∨ ∃ e2, P.underlying t2 = some (.slice e2)) (hi : P.info? e = some i) {w : World}
    {b o sLen sCap m : Nat} {x : Value} {cur : Array Value} {T : TypeId} {news : List Value} (hl : ∀ W : World, (Builtin.lenOf x).run P W = .ok m W) (hf : (Builtin.firstCells i.size m x).run P w = .ok news.toArray w)
    (hh : w.heap[b]? = some (.cells cur T (0, 0))) (h1 : ∀ u ∈ news, u.oneCell' = true) (hroom : sLen + m ≤ sCap) (hfit : o + sLen * i.size + news.length ≤ cur.size) :
    (Builtin.append_ #[t, t2] ty #[.slice (some ⟨b, o, none⟩) sLen sCap, x]).run P w = .ok (.slice (some ⟨b, o, none⟩) (sLen + m) sCap)
      (w.setRow b (cur.toList.take (o + sLen * i.size + 0) ++ news ++ cur.toList.drop (o + sLen * i.size + 0 + news.length)).toArray) := by
  have hst := run_storeCells_at (P := P) b (o + sLen * i.size) T news 0 cur w hh (by simpa using hfit) h1
  rcases ht2 with ht2 | ⟨e2, ht2⟩
  all_goals
    simp [Builtin.append_, run_underlying ht, run_underlying ht2, sizeOf, typeInfo, hi, hl, hroom, hf, Addr.add_lit]
    simp only [Nat.add_zero] at hst
    simp [hst]

theorem op_append_sl {P : Program} {o : Oper} {g : Operand → SV} {t t2 e : TypeId} {x y : Operand} (ho : o.op = .call { callee := .builtin .append, args := #[x, y], argTypes := #[t, t2] }) {σf : Nat → SObj}
    {ti eti : TI} {els els2 : List (List PV)} {rd2 : List (Nat × SObj)} {T : TypeId} {s n sz lo top : Nat} (ht : tiOf P t = some ti) (hk : ti.kind = .slice e) (het : tiOf P e = some eti) (hsrc : srcOf σf (g y) = some (els2, rd2)) (hx : g x = .sl n sz lo top)
    (hob : (T = e ∧ s = eti.size ∧ sz = s ∧ notIntT P t2 = true ∧ 0 < eti.size) ∧ top + els2.length ≤ els.length ∧ (∀ e ∈ els2, e.length = eti.size) ∧ (∀ e ∈ els2, ∀ p ∈ e, PV.one p = true) ∧ srcObs σf (g y)) :
    OpR P o g ([(n, .row T s els)] ++ rd2) (.sl n sz lo (top + els2.length)) [(n, .row T s (els.take top ++ els2 ++ els.drop (top + els2.length)))] := by
  have hex : ∀ (ρ : Operand → Value) (w w' : World) (v : Value), (Builtin.append_ #[t, t2] o.type #[ρ x, ρ y]).run P w = .ok v w' → (execOp ρ o).run P w = .ok (.value v) w' := by
    intro ρ w w' v h
    simp [execOp, ho, resolve, invoke, builtin, h]
  have hu := slice_of ht hk
  obtain ⟨i, d, z, hi1, hi2, hi3, hi4, hi5, hi6, hi7, hi8⟩ := tiOf_inv het
  obtain ⟨⟨rfl, rfl, rfl, q3, q4⟩, q5, q8, q9, qs⟩ := hob
  have hd2 := notIntT_inv q3
  intro w0 ω0 β Φ ω σ w ρ hR hg hrd
  have hn := hrd n (.row T eti.size els) (by simp)
  obtain ⟨v, hβ, hO⟩ := hR.at_ hn
  obtain ⟨a, a', l, c, hβ', hv, p1, p2, p3⟩ := (hx ▸ hg x : V β Φ (.sl n eti.size lo top) (ρ x)).inv_sl
  rw [hβ] at hβ'
  obtain rfl := Option.some.inj hβ'
  obtain ⟨news, k1, k2, k3, k4, k5⟩ := (src_ok (P := P) hR (hg y) hsrc qs (fun m ob hm => hrd m ob (by simp [hm])) q4 q8 q9).ex
  by_cases hm0 : els2.length = 0
  · have he2 : els2 = [] := List.eq_nil_of_length_eq_zero hm0
    subst he2
    have hrun := run_append_none (P := P) (ty := o.type) hu hd2 hi1 (w := w) (base := some a') (sLen := top - lo) (sCap := c - lo) (x := ρ y) k1 (by have := k2 w rfl; rw [hi5]; simpa [List.eq_nil_of_length_eq_zero (show news.length = 0 by simpa using k3)] using this) (by omega)
    have hsame : σ.set n (.row T eti.size (els.take top ++ [] ++ els.drop (top + ([] : List (List PV)).length))) = σ := by
      simp only [List.append_nil, List.length_nil, Nat.add_zero, List.take_append_drop]
      obtain ⟨hlt, he⟩ := List.getElem?_eq_some_iff.1 hn
      rw [← he]; exact List.set_getElem_self hlt
    refine ⟨_, _, w, β, Φ, ω, hex ρ w _ _ (by rw [hv]; exact hrun), .inl rfl, BExt.refl _, rfl, Fz.le_refl _, .sl n _ _ _ a a' l c hβ p1 (by simpa using p2) p3, ?_⟩
    simp only [setAll, hsame]; exact hR
  · rcases hO with ⟨ax, hvv, rfl⟩ | ⟨b, c, cs, hvv, hω, hh, hcs, hcl, hm, hse, hj⟩
    · simp only [List.length_nil] at q5; omega
    cases hvv
    have hlt : lo < c := by omega
    obtain rfl := p3 hlt
    have ea : (⟨b, 0, none⟩ : Addr).add (lo * eti.size) = ⟨b, lo * eti.size, none⟩ := by rw [Addr.add_lit, Nat.zero_add]
    rw [ea] at hv
    have hmul : top * eti.size + els2.length * eti.size ≤ c * eti.size := by rw [← Nat.add_mul]; exact Nat.mul_le_mul_right _ (by omega)
    have hlm : lo * eti.size + (top - lo) * eti.size = top * eti.size := by rw [← Nat.add_mul]; congr 1; omega
    have hrun := run_append_fits_at (P := P) (ty := o.type) hu hd2 hi1 (w := w) (b := b) (o := lo * eti.size) (sLen := top - lo) (sCap := c - lo) (m := els2.length) (x := ρ y) (cur := cs) (T := T) (news := news) k1 (by rw [hi5]; exact k2 w rfl) hh k5 (by omega) (by rw [hi5, hlm, k3, hcs]; exact hmul)
    rw [hi5, hlm] at hrun
    have hlen2 : (els.take top ++ els2 ++ els.drop (top + els2.length)).length = els.length := by simp; omega
    refine ⟨_, _, _, β, Φ, ω, hex ρ w _ _ (by rw [hv]; exact hrun), .inl rfl, BExt.refl _, rfl, Fz.le_refl _, ?_, ?_⟩
    · rw [show top - lo + els2.length = top + els2.length - lo by omega, ← ea]
      exact .sl n _ _ _ _ _ _ _ hβ (by omega) (by omega) (fun _ => rfl)
    · simp only [setAll]
      refine hR.turn hn hβ hω rfl rfl rfl (by simp) (fun k hk => setRow_other w b k _ hk) ?_
      refine .inr ⟨b, c, _, by rw [hlen2], hω, setRow_heap w b cs _ T (0, 0) hh, ?_, by rw [hlen2]; exact hcl, hm, fun x hx => ?_, fun i' x j p u h1 h2 h3 => ?_⟩
      · simp only [List.size_toArray, List.length_append, List.length_take, List.length_drop, Array.length_toList]; omega
      · rcases List.mem_append.1 hx with h | h
        · rcases List.mem_append.1 h with h | h
          · exact hse x (List.mem_of_mem_take h)
          · exact q8 x h
        · exact hse x (List.mem_of_mem_drop h)
      · have hjl := (List.getElem?_eq_some_iff.1 h2).1
        have hil := (List.getElem?_eq_some_iff.1 h1).1
        have hxs : x.length = eti.size := by
          rcases List.mem_append.1 (List.mem_of_getElem? h1) with h | h
          · rcases List.mem_append.1 h with h | h
            · exact hse x (List.mem_of_mem_take h)
            · exact q8 x h
          · exact hse x (List.mem_of_mem_drop h)
        rw [hxs] at hjl
        have htl : (els.take top).length = top := by simp; omega
        have hcut : (cs.toList.take (top * eti.size + 0)).length = top * eti.size := by simp; rw [hcs]; omega
        have h3' : (cs.toList.take (top * eti.size + 0) ++ news ++ cs.toList.drop (top * eti.size + 0 + news.length))[i' * eti.size + j]? = some u := by simpa using h3
        by_cases hc1 : i' < top
        · have hm1 := mul_lt_of hc1 hjl
          rw [List.append_assoc, List.getElem?_append_left (by omega)] at h1
          rw [List.getElem?_take, if_pos hc1] at h1
          rw [List.append_assoc, List.getElem?_append_left (by omega), List.getElem?_take, if_pos (by omega)] at h3'
          exact hj i' x j p u h1 h2 (by simpa using h3')
        · by_cases hc2 : i' < top + els2.length
          · have hm2 := mul_lt_of (show i' - top < els2.length by omega) hjl
            have e1 : i' * eti.size = top * eti.size + (i' - top) * eti.size := by rw [← Nat.add_mul]; congr 1; omega
            rw [List.append_assoc, List.getElem?_append_right (by omega), List.getElem?_append_left (by omega), htl] at h1
            rw [List.append_assoc, List.getElem?_append_right (by omega), List.getElem?_append_left (by omega), hcut] at h3'
            refine k4 _ x j p u h1 h2 ?_
            rw [← h3']; congr 1; omega
          · have e1 : i' * eti.size = (top + els2.length) * eti.size + (i' - (top + els2.length)) * eti.size := by rw [← Nat.add_mul]; congr 1; omega
            have e2 : (top + els2.length) * eti.size = top * eti.size + els2.length * eti.size := Nat.add_mul _ _ _
            rw [List.getElem?_append_right (by simp; omega)] at h1
            have hl1 : (els.take top ++ els2).length = top + els2.length := by rw [List.length_append, htl]
            rw [hl1, List.getElem?_drop] at h1
            rw [List.getElem?_append_right (by rw [List.length_append, hcut, k3]; omega), List.length_append, hcut, List.getElem?_drop] at h3'
            refine hj i' x j p u ?_ h2 ?_
            · rw [← h1]; congr 1; omega
            · rw [← Array.getElem?_toList, ← h3']; congr 1; omega

theorem op_append {P : Program} {o : Oper} {g : Operand → SV} {t t2 : TypeId} {x y : Operand} (ho : o.op = .call { callee := .builtin .append, args := #[x, y], argTypes := #[t, t2] }) {σf : Nat → SObj} {N : Nat}
    {ob : Prop} {rd : List (Nat × SObj)} {r : SV} {wr : List (Nat × SObj)} (he : evAppend P σf N t t2 (g x) (g y) = .ok ob rd r wr) (hob : ob) : OpR P o g rd r wr := by
  have hex : ∀ (ρ : Operand → Value) (w w' : World) (v : Value), (Builtin.append_ #[t, t2] o.type #[ρ x, ρ y]).run P w = .ok v w' → (execOp ρ o).run P w = .ok (.value v) w' := by
    intro ρ w w' v h
    simp [execOp, ho, resolve, invoke, builtin, h]
  unfold evAppend at he
  split at he <;> try cases he
  rename_i ti els2 rd2 ht hsrc
  split at he <;> try cases he
  rename_i e hk
  have hu := slice_of ht hk
  split at he <;> try cases he
  rename_i eti het
  obtain ⟨i, d, z, hi1, hi2, hi3, hi4, hi5, hi6, hi7, hi8⟩ := tiOf_inv het
  have hzl : z.cells.size = eti.zero.length := by have := (pvs_ok (Φ := fun _ => none) hi4).1; simpa using this.symm
  split at he
  · rename_i n hx
    split at he <;> try cases he
    rename_i T s els hσ
    obtain ⟨⟨rfl, rfl, q3, q4, q5⟩, ⟨q6, q7⟩, q8, q9, qs⟩ := hob
    have hd2 := notIntT_inv q3
    intro w0 ω0 β Φ ω σ w ρ hR hg hrd
    have hn := hrd n (.row T eti.size els) (by simp)
    have hN := hrd N .unborn (by simp)
    have hnN : n ≠ N := by rintro rfl; rw [hn] at hN; cases hN
    obtain ⟨v, hβ, hO⟩ := hR.at_ hn
    have hv := ((hx ▸ hg x : V β Φ (.h n) (ρ x)).inv_h).1
    rw [hβ] at hv
    have hv := (Option.some.inj hv).symm
    obtain ⟨news, k1, k2, k3, k4, k5⟩ := (src_ok (P := P) hR (hg y) hsrc qs (fun m ob hm => hrd m ob (by simp [hm])) q4 q8 q9).ex
    -- the old row is given up
    have hdead : Rep w0 ω0 β (σ.set n .dead) Φ ω w := by
      have := hR.upd (n := n) (ob' := .dead) (v' := v) (w' := w) (ω' := ω) (Φ' := Φ) (List.getElem?_eq_some_iff.1 hn).1 rfl rfl rfl (Nat.le_refl _) (fun u hu _ => by rw [hβ] at hu; exact Option.some.inj hu) (fun _ _ _ => ⟨rfl, rfl⟩) hR.lt (Fz.le_refl _) hR.fz trivial
      rwa [set_same hβ] at this
    have hN' : (σ.set n .dead)[N]? = some .unborn := by rw [List.getElem?_set_ne hnN]; exact hN
    -- the row grows into a new block
    have grow : ∀ (base : Option Addr) (cap : Nat) (olds : List Value), v = .slice base els.length cap → cap < els.length + els2.length → olds.length = els.length * eti.size →
        (Builtin.firstCells i.size els.length (.slice base els.length cap)).run P w.drew = .ok olds.toArray w.drew →
        (∀ x ∈ els, x.length = eti.size) → (∀ (i : Nat) x (j : Nat) p u, els[i]? = some x → x[j]? = some p → olds[i * eti.size + j]? = some u → VP Φ p u) →
        ∃ nx v w' β' Φ' ω', (execOp ρ o).run P w = .ok nx w' ∧ (nx = .value v ∨ nx = .skip ∧ v = undef) ∧ BExt β β' ∧ β'.length = β.length ∧ Φ.le Φ' ∧ V β' Φ' (.h N) v ∧ Rep w0 ω0 β' (setAll σ [(n, .dead), (N, .row T eti.size (els ++ els2))]) Φ' ω' w' := by
      intro base cap olds hvb hcap hlo hfo hse hjo
      have hrun := run_append_grows (P := P) (ty := o.type) hu hd2 hi1 hi3 (w := w) (base := base) (sLen := els.length) (sCap := cap) (m := els2.length) (x := ρ y) (olds := olds) (news := news) k1 (by rw [hi5]; exact k2 _ rfl) (by exact hfo) hcap q6 (by rw [hi6]; exact q7)
      obtain ⟨ω', β', r1, r2, r3, r4⟩ := row_grown (P := P) (hdead.drew) hN' (e := T) (size := eti.size) (cap := grownCap w (els.length + els2.length) cap T) (els := els ++ els2)
        (cs := olds.toArray ++ news.toArray ++ Builtin.zeroCells z.cells (grownCap w (els.length + els2.length) cap T - (els.length + els2.length)))
        (by
          have := grownCap_ge w (els.length + els2.length) cap T
          simp only [Array.size_append, List.size_toArray, size_zeroCells, hlo, k3, hzl, q5, ← Nat.add_mul]
          congr 1; omega)
        (by have := grownCap_ge w (els.length + els2.length) cap T; simpa using this)
        (grownCap_le_maxLen w _ _ _ (by unfold maxLen; omega))
        (fun x hx => by rcases List.mem_append.1 hx with h | h; exact hse x h; exact q8 x h)
        (fun i' x j p u h1 h2 h3 => by
          refine grown_get (rest := (Builtin.zeroCells z.cells (grownCap w (els.length + els2.length) cap T - (els.length + els2.length))).toList) hlo k3 hse q8 hjo k4 i' x j p u h1 h2 ?_
          rw [← h3]; simp [← Array.getElem?_toList])
      refine ⟨_, _, _, β', Φ, ω', hex ρ w _ _ (by rw [hv, hvb]; exact hrun), .inl rfl, r1, r2, Fz.le_refl _, ?_, r4⟩
      have : (els ++ els2).length = els.length + els2.length := by simp
      rw [this] at r3
      exact r3
    rcases hO with ⟨a, rfl, rfl⟩ | ⟨b, cap, cs, rfl, hω, hh, hcs, hcl, hm, hse, hj⟩
    · by_cases hm0 : els2.length = 0
      · -- nothing comes, to nothing
        have he2 : els2 = [] := List.eq_nil_of_length_eq_zero hm0
        subst he2
        have hrun := run_append_none (P := P) (ty := o.type) hu hd2 hi1 (w := w) (base := a) (sLen := 0) (sCap := 0) (x := ρ y) k1 (by have := k2 w rfl; rw [hi5]; simpa [List.eq_nil_of_length_eq_zero (show news.length = 0 by simpa using k3)] using this) (Nat.le_refl _)
        have hNβ := hR.unborn hN
        have hup := hdead.upd (n := N) (ob' := .row T eti.size []) (v' := .slice a 0 0) (w' := w) (ω' := ω) (Φ' := Φ) (List.getElem?_eq_some_iff.1 hN').1 rfl rfl rfl (Nat.le_refl _) (fun u hu hr => by rw [hNβ] at hu; cases hu; simp [isRef] at hr) (fun _ _ _ => ⟨rfl, rfl⟩) hR.lt (Fz.le_refl _) hR.fz (.inl ⟨a, rfl, rfl⟩)
        have hlt : N < β.length := by rw [hR.len]; exact (List.getElem?_eq_some_iff.1 hN).1
        refine ⟨_, _, w, β.set N (.slice a 0 0), Φ, ω, hex ρ w _ _ (by rw [hv]; exact hrun), .inl rfl, fun m u hm' hr => ?_, by simp, Fz.le_refl _, .h N _ (List.getElem?_set_self hlt) rfl, by simpa [setAll] using hup⟩
        by_cases e : m = N
        · subst e; rw [hNβ] at hm'; cases hm'; simp [isRef] at hr
        · rw [List.getElem?_set_ne (fun h => e h.symm)]; exact hm'
      · refine grow a 0 [] rfl (by simp; omega) (by simp) ?_ (by simp) (by simp)
        cases a <;> simp [Builtin.firstCells, loadCells, loadCellsFrom]
    · have hone : ∀ u ∈ news, u.oneCell' = true := k5
      by_cases hroom : els.length + els2.length ≤ cap
      · -- in place
        have hfit : els.length * eti.size + news.length ≤ cs.size := by rw [k3, hcs, ← Nat.add_mul]; exact Nat.mul_le_mul_right _ hroom
        have hrun := run_append_fits (P := P) (ty := o.type) hu hd2 hi1 (w := w) (b := b) (sLen := els.length) (sCap := cap) (m := els2.length) (x := ρ y) (cur := cs) (T := T) (news := news) k1 (by rw [hi5]; exact k2 w rfl) hh hone hroom (by rw [hi5]; exact hfit)
        have hNβ := hR.unborn hN
        have hNlt : N < β.length := by rw [hR.len]; exact (List.getElem?_eq_some_iff.1 hN).1
        have hblt : b < w.heap.size := hR.lt b (by omega)
        rw [hi5] at hrun
        have hlen : (els ++ els2).length = els.length + els2.length := by simp
        refine ⟨_, _, _, β.set N (.slice (some ⟨b, 0, none⟩) (els ++ els2).length cap), Φ, fun k => if k = b then N + 2 else ω k, hex ρ w _ _ (by rw [hv]; exact hrun), .inl rfl, fun m u hm' hr => ?_, by simp, Fz.le_refl _,
          by rw [← hlen]; exact .h N _ (List.getElem?_set_self hNlt) rfl, ?_⟩
        · by_cases e : m = N
          · subst e; rw [hNβ] at hm'; cases hm'; simp [isRef] at hr
          · rw [List.getElem?_set_ne (fun h => e h.symm)]; exact hm'
        · have hext : BExt β (β.set N (.slice (some ⟨b, 0, none⟩) (els ++ els2).length cap)) := fun m u hm' hr => by
            by_cases e : m = N
            · subst e; rw [hNβ] at hm'; cases hm'; simp [isRef] at hr
            · rw [List.getElem?_set_ne (fun h => e h.symm)]; exact hm'
          have hoth : ∀ (C : Array Value) k, k ≠ b → (w.setRow b C).heap[k]? = w.heap[k]? := fun C k hk => setRow_other w b k C hk
          refine ⟨hR.os, hR.tape, hR.output, by simpa using hR.size, fun k hk h0 => ?_, fun k ob hk => ?_, fun k hk => ?_, by simp [hR.len, setAll], fun m ob u hm' hu' => ?_⟩
          · obtain ⟨h1, h2⟩ := hR.frame k hk h0
            have hkb : k ≠ b := by rintro rfl; omega
            exact ⟨by rw [hoth _ k hkb]; exact h1, by rw [if_neg hkb]; exact h2⟩
          · obtain ⟨h1, h2⟩ := hR.fz k ob hk
            have hkb : k ≠ b := by rintro rfl; omega
            exact ⟨by rw [if_neg hkb]; exact h1, by rw [hoth _ k hkb]; exact h2⟩
          · rw [size_setRow]
            by_cases hkb : k = b
            · subst hkb; exact hblt
            · rw [if_neg hkb] at hk; exact hR.lt k hk
          · by_cases hmN : m = N
            · subst hmN
              simp only [setAll] at hm'
              rw [List.getElem?_set_self (by simpa using (List.getElem?_eq_some_iff.1 hN).1)] at hm'
              rw [List.getElem?_set_self hNlt] at hu'
              cases hm'; cases hu'
              refine .inr ⟨b, cap, _, rfl, by simp, setRow_heap w b cs _ T (0, 0) hh, ?_, by simpa using hroom, hm, fun x hx => by rcases List.mem_append.1 hx with h | h; exact hse x h; exact q8 x h, fun i' x j p u h1 h2 h3 => ?_⟩
              · simp only [List.size_toArray, List.length_append, List.length_take, List.length_drop, Array.length_toList]; omega
              · refine grown_get (olds := cs.toList.take (els.length * eti.size + 0)) (rest := cs.toList.drop (els.length * eti.size + 0 + news.length)) (by simp; omega) k3 hse q8 (fun i'' x'' j'' p'' u'' g1 g2 g3 => ?_) k4 i' x j p u h1 h2 (by simpa using h3)
                rw [List.getElem?_take] at g3
                split at g3
                · exact hj i'' x'' j'' p'' u'' g1 g2 (by simpa using g3)
                · cases g3
            · simp only [setAll] at hm'
              rw [List.getElem?_set_ne (fun h => hmN h.symm)] at hm' hu'
              by_cases hmn : m = n
              · subst hmn
                rw [List.getElem?_set_self (List.getElem?_eq_some_iff.1 hn).1] at hm'
                cases hm'
                trivial
              · rw [List.getElem?_set_ne (fun h => hmn h.symm)] at hm'
                refine (hR.obj m ob u hm' hu').mono hext (Fz.le_refl _) fun k hk => ?_
                have hkb : k ≠ b := by rintro rfl; omega
                exact ⟨by rw [if_neg hkb]; exact hk, hoth _ k hkb⟩
      · have hlo : (cs.toList.take (els.length * eti.size)).length = els.length * eti.size := by
          have := Nat.mul_le_mul_right eti.size hcl
          simp; rw [hcs]; omega
        refine grow _ cap (cs.toList.take (els.length * eti.size)) rfl (by omega) hlo ?_ hse (fun i' x j p u h1 h2 h3 => ?_)
        · rw [hi5]
          refine run_firstCells_some (P := P) w.drew eti.size els.length _ els.length cap _ hlo fun j u hj' => ?_
          rw [World.cell?_drew, Addr.add_lit, Nat.zero_add, cell_of_row w b j cs T (0, 0) hh]
          rw [List.getElem?_take] at hj'
          split at hj'
          · simpa using hj'
          · cases hj'
        · rw [List.getElem?_take] at h3
          split at h3
          · exact hj i' x j p u h1 h2 (by simpa using h3)
          · cases h3
  · rename_i hx
    cases he
    obtain ⟨⟨q3, q4, q5⟩, ⟨q6, q7⟩, q8, q9, qs⟩ := hob
    have hd2 := notIntT_inv q3
    intro w0 ω0 β Φ ω σ w ρ hR hg hrd
    have hN := hrd N .unborn (by simp)
    obtain ⟨sz, a, cap, f, hv, _, _, _, hc, _⟩ := (hx ▸ hg x : V β Φ (.u (.fz [] (some 0))) (ρ x)).inv_fz
    have hcap : cap = 0 := (hc 0 rfl).symm
    subst hcap
    simp only [List.length_nil] at hv
    obtain ⟨news, k1, k2, k3, k4, k5⟩ := (src_ok (P := P) hR (hg y) hsrc qs (fun m ob hm => hrd m ob (by simp [hm])) q4 q8 q9).ex
    by_cases hm0 : els2.length = 0
    · have he2 : els2 = [] := List.eq_nil_of_length_eq_zero hm0
      subst he2
      have hrun := run_append_none (P := P) (ty := o.type) hu hd2 hi1 (w := w) (base := a) (sLen := 0) (sCap := 0) (x := ρ y) k1 (by have := k2 w rfl; rw [hi5]; simpa [List.eq_nil_of_length_eq_zero (show news.length = 0 by simpa using k3)] using this) (Nat.le_refl _)
      have hNβ := hR.unborn hN
      have hup := hR.upd (n := N) (ob' := .row e eti.size []) (v' := .slice a 0 0) (w' := w) (ω' := ω) (Φ' := Φ) (List.getElem?_eq_some_iff.1 hN).1 rfl rfl rfl (Nat.le_refl _) (fun u hu hr => by rw [hNβ] at hu; cases hu; simp [isRef] at hr) (fun _ _ _ => ⟨rfl, rfl⟩) hR.lt (Fz.le_refl _) hR.fz (.inl ⟨a, rfl, rfl⟩)
      have hlt : N < β.length := by rw [hR.len]; exact (List.getElem?_eq_some_iff.1 hN).1
      refine ⟨_, _, w, β.set N (.slice a 0 0), Φ, ω, hex ρ w _ _ (by rw [hv]; exact hrun), .inl rfl, fun m u hm' hr => ?_, by simp, Fz.le_refl _, .h N _ (List.getElem?_set_self hlt) rfl, by simpa [setAll] using hup⟩
      by_cases e : m = N
      · subst e; rw [hNβ] at hm'; cases hm'; simp [isRef] at hr
      · rw [List.getElem?_set_ne (fun h => e h.symm)]; exact hm'
    · have hfo : (Builtin.firstCells i.size 0 (.slice a 0 0)).run P w.drew = .ok ([] : List Value).toArray w.drew := by cases a <;> simp [Builtin.firstCells, loadCells, loadCellsFrom]
      have hrun := run_append_grows (P := P) (ty := o.type) hu hd2 hi1 hi3 (w := w) (base := a) (sLen := 0) (sCap := 0) (m := els2.length) (x := ρ y) (olds := []) (news := news) k1 (by rw [hi5]; exact k2 _ rfl) hfo (by omega) (by omega) (by rw [hi6, Nat.zero_add]; exact q7)
      simp only [Nat.zero_add] at hrun
      have hge := grownCap_ge w els2.length 0 e
      obtain ⟨ω', β', r1, r2, r3, r4⟩ := row_grown (P := P) (hR.drew) hN (e := e) (size := eti.size) (cap := grownCap w els2.length 0 e) (els := els2)
        (cs := ([] : List Value).toArray ++ news.toArray ++ Builtin.zeroCells z.cells (grownCap w els2.length 0 e - els2.length))
        (by simp only [Array.size_append, List.size_toArray, size_zeroCells, k3, hzl, q5, List.length_nil, Nat.zero_add, ← Nat.add_mul]; congr 1; omega) hge (grownCap_le_maxLen w _ _ _ (by unfold maxLen; omega)) q8
        (fun i' x j p u h1 h2 h3 => by
          refine grown_get (els := []) (olds := []) (rest := (Builtin.zeroCells z.cells (grownCap w els2.length 0 e - els2.length)).toList) (by simp) k3 (by simp) q8 (by simp) k4 i' x j p u (by simpa using h1) h2 ?_
          rw [← h3]; simp [← Array.getElem?_toList])
      exact ⟨_, _, _, β', Φ, ω', hex ρ w _ _ (by rw [hv]; exact hrun), .inl rfl, r1, r2, Fz.le_refl _, r3, r4⟩
  · rename_i els c hne hx
    cases he
    obtain ⟨⟨q3, q4, q5⟩, ⟨q6, q7⟩, q8, q9, q10, q11, q12, qs⟩ := hob
    have hd2 := notIntT_inv q3
    intro w0 ω0 β Φ ω σ w ρ hR hg hrd
    obtain ⟨sz, a, cap, f, hv, p1, p2, p3, hc, p5, p6, p7⟩ := (hx ▸ hg x : V β Φ (.u (.fz els (some c))) (ρ x)).inv_fz
    have hcap := hc c rfl
    obtain ⟨news, k1, k2, k3, k4, k5⟩ := (src_ok (P := P) hR (hg y) hsrc qs hrd q4 q8 q9).ex
    obtain ⟨olds, o1, o2, o3, o4, o5⟩ := (src_ok (P := P) (σf := σf) hR (hx ▸ hg x : V β Φ (.u (.fz els (some c))) (ρ x)) (els := els) (rd := []) rfl trivial (by simp) q4 q10 q11).ex
    by_cases hm0 : els2.length = 0
    · have he2 : els2 = [] := List.eq_nil_of_length_eq_zero hm0
      subst he2
      have hrun := run_append_none (P := P) (ty := o.type) hu hd2 hi1 (w := w) (base := a) (sLen := els.length) (sCap := cap) (x := ρ y) k1 (by have := k2 w rfl; rw [hi5]; simpa [List.eq_nil_of_length_eq_zero (show news.length = 0 by simpa using k3)] using this) (by omega)
      refine ⟨_, _, w, β, Φ, ω, hex ρ w _ _ (by rw [hv]; exact hrun), .inl rfl, BExt.refl _, rfl, Fz.le_refl _, ?_, hR⟩
      rw [List.append_nil]
      exact .u _ _ (.fz sz els none a cap f p1 p2 p3 (by simp) p5 p6 p7)
    · have hlt : c < els.length + els2.length := by rcases q12 with h | h; exact h; exact absurd h hm0
      have hrun := run_append_grows (P := P) (ty := o.type) hu hd2 hi1 hi3 (w := w) (base := a) (sLen := els.length) (sCap := cap) (m := els2.length) (x := ρ y) (olds := olds) (news := news) k1 (by rw [hi5]; exact k2 _ rfl)
        (by rw [hi5, ← hv]; exact o2 _ rfl) (by omega) q6 (by rw [hi6]; exact q7)
      have hge := grownCap_ge w (els.length + els2.length) cap e
      obtain ⟨Φ', ω', r1, r2, r3⟩ := hR.drew.frost (.cells (olds.toArray ++ news.toArray ++ Builtin.zeroCells z.cells (grownCap w (els.length + els2.length) cap e - (els.length + els2.length))) e)
      have hlen : (els ++ els2).length = els.length + els2.length := by simp
      refine ⟨_, _, _, β, Φ', ω', hex ρ w _ _ (by rw [hv]; exact hrun), .inl rfl, BExt.refl _, rfl, r1, ?_, r3⟩
      rw [← hlen]
      refine V.fz_new (sz := eti.size) r2 (fun x hx => by rcases List.mem_append.1 hx with h | h; exact q10 x h; exact q8 x h) (by rw [hlen]; exact hge) (grownCap_le_maxLen w _ _ _ (by unfold maxLen; omega)) ?_ (fun i' x j p u h1 h2 h3 => ?_) (by simp)
      · have := Nat.mul_le_mul_right eti.size hge
        rw [hlen]
        simp only [Array.size_append, List.size_toArray, size_zeroCells, o3, k3, hzl, q5, ← Nat.add_mul]
        refine Nat.mul_le_mul_right _ (by omega)
      · refine (grown_get (rest := (Builtin.zeroCells z.cells (grownCap w (els.length + els2.length) cap e - (els.length + els2.length))).toList) o3 k3 q10 q8 o4 k4 i' x j p u h1 h2 ?_).mono r1
        rw [← h3]; simp [← Array.getElem?_toList]
  · rename_i n sz lo top hx
    split at he <;> try cases he
    rename_i T s els hσ
    exact op_append_sl ho ht hk het hsrc hx hob
  · cases he
end Go.Nm
