/- Slices, lengths, conversions, functions, maps: what they do, by names. -/
import Derived.Test.YteoihmgigmiajaaNm7
import Derived.Laws.IdiomStrings
set_option linter.all false
set_option linter.unusedSimpArgs false
set_option linter.unusedVariables false
namespace Go.Nm

/-! ### a new block that is never written again -/
section
variable {w0 : World} {ω0 : Nat → Nat} {β : List Value} {σ : List SObj} {Φ : Fz} {ω : Nat → Nat} {w : World}
theorem Rep.frost (h : Rep w0 ω0 β σ Φ ω w) (o : Obj) : ∃ (Φ' : Fz) (ω' : Nat → Nat), Φ.le Φ' ∧ Φ' w.heap.size = some o ∧ Rep w0 ω0 β σ Φ' ω' (w.alloc o) := by
  have hle : Φ.le (fun b => if b = w.heap.size then some o else Φ b) := by
    intro b ob hb
    have := h.lt b (by rw [(h.fz b ob hb).1]; omega)
    simp only; rw [if_neg (by omega)]; exact hb
  refine ⟨fun b => if b = w.heap.size then some o else Φ b, fun b => if b = w.heap.size then 1 else ω b, hle, by simp, ?_⟩
  refine ⟨h.os, h.tape, h.output, Nat.le_trans h.size (by simp), fun b hb h0 => ?_, fun b ob hb => ?_, fun b hb => ?_, h.len, fun n ob v hn hv => ?_⟩
  · obtain ⟨h1, h2⟩ := h.frame b hb h0
    have : b < w.heap.size := Nat.lt_of_lt_of_le hb h.size
    exact ⟨by rw [Go.RowKit.Below.heap_alloc w o b this]; exact h1, by rw [if_neg (by omega)]; exact h2⟩
  · by_cases e : b = w.heap.size
    · subst e
      simp only [if_true] at hb ⊢
      cases hb
      exact ⟨trivial, heap_alloc_new w _⟩
    · rw [if_neg e] at hb ⊢
      obtain ⟨h1, h2⟩ := h.fz b ob hb
      exact ⟨h1, by rw [Go.RowKit.Below.heap_alloc w o b (h.lt b (by omega))]; exact h2⟩
  · by_cases e : b = w.heap.size
    · subst e; simp
    · rw [if_neg e] at hb; have := h.lt b hb; simp; omega
  · refine (h.obj n ob v hn hv).mono (BExt.refl _) hle fun b hb => ?_
    have := h.lt b (by omega)
    exact ⟨by rw [if_neg (by omega)]; exact hb, Go.RowKit.Below.heap_alloc w o b this⟩

theorem Rep.drew (h : Rep w0 ω0 β σ Φ ω w) : Rep w0 ω0 β σ Φ ω w.drew := h.of_heap rfl rfl rfl rfl
end

/-- a frozen row in a block of its own -/
theorem V.fz_new {β : List Value} {Φ : Fz} {els : List (List PV)} {sz b cap : Nat} {cs : Array Value} {T : TypeId} {fr : Nat × Nat} (hb : Φ b = some (.cells cs T fr)) (hsz : ∀ e ∈ els, e.length = sz) (hl : els.length ≤ cap) (hm : cap ≤ maxLen)
    (hcs : els.length * sz ≤ cs.size) (hj : ∀ (i : Nat) e (j : Nat) x u, els[i]? = some e → e[j]? = some x → cs[i * sz + j]? = some u → VP Φ x u) {c : Option Nat} (hc : ∀ k, c = some k → k = cap) :
    V β Φ (.u (.fz els c)) (.slice (some ⟨b, 0, none⟩) els.length cap) := by
  refine .u _ _ (.fz sz els c _ cap (fun i j => cs.getD (i * sz + j) (.bool false)) hsz hl hm hc (fun _ => rfl) (fun i e j x ad h1 h2 h3 => ?_) fun i e j x h1 h2 => ?_)
  all_goals
    have h4 := (List.getElem?_eq_some_iff.1 h1).1
    have h5 := (List.getElem?_eq_some_iff.1 h2).1
    have h6 := hsz e (List.mem_of_getElem? h1)
    have hlt : i * sz + j < cs.size := by
      have : (i + 1) * sz ≤ els.length * sz := Nat.mul_le_mul_right _ h4
      rw [Nat.succ_mul] at this; omega
    have hcell : cs[i * sz + j]? = some (cs[i * sz + j]) := Array.getElem?_eq_getElem hlt
    have hgd : cs.getD (i * sz + j) (.bool false) = cs[i * sz + j] := by simp [Array.getD_eq_getD_getElem?, hcell]
  · cases h3
    simp only [Fz.cell, Addr.add_lit, Nat.zero_add, hb, Option.isSome_none, Bool.false_eq_true, if_false, hcell, hgd]
  · rw [hgd]; exact hj i e j x _ h1 h2 hcell

/-! ### slices -/
def natSV : SV → Option Int
  | .u (.i _ n) => some n
  | _ => none

/-- an optional bound -/
def bndSV (d : Int) : Option SV → Option Int
  | none => some d
  | some x => natSV x

def evSlice (P : Program) (σ : Nat → SObj) (t : TypeId) (x : SV) (lo hi mx : Option SV) : Ev :=
  match tiOf P t with
  | some ti => match ti.kind, x with
    | .str, .u (.s l) => match bndSV 0 lo, bndSV l.length hi, mx with
      | some a, some b, none => .ok (0 ≤ a ∧ a ≤ b ∧ b ≤ l.length) [] (.u (.s ((l.take b.toNat).drop a.toNat))) []
      | _, _, _ => .bad
    | .slice e, .u (.fz els c) => match tiOf P e with
      | some eti => match bndSV 0 lo, bndSV els.length hi with
        | some a, some b => match mx with
          | none => .ok (0 ≤ a ∧ a ≤ b ∧ b ≤ els.length ∧ ∀ y ∈ els, y.length = eti.size) [] (.u (.fz ((els.take b.toNat).drop a.toNat) (c.map (· - a.toNat)))) []
          | some m => match hi, natSV m with
            | some _, some q => .ok (0 ≤ a ∧ a ≤ b ∧ b ≤ q ∧ q ≤ els.length ∧ ∀ y ∈ els, y.length = eti.size) [] (.u (.fz ((els.take b.toNat).drop a.toNat) (some (q.toNat - a.toNat)))) []
            | _, _ => .bad
        | _, _ => .bad
      | none => .bad
    | .slice e, .h m => match σ m with
      | .row T s els => match tiOf P e with
        | some eti => match bndSV 0 lo, bndSV els.length hi with
          | some a, some b => match mx with
            | none => .ok (0 ≤ a ∧ a ≤ b ∧ b ≤ els.length ∧ 0 < els.length ∧ s = eti.size) [(m, .row T s els)] (.sl m s a.toNat b.toNat) []
            | some k => match lo, hi, natSV k with
              | some _, some _, some q => .ok (0 ≤ a ∧ a ≤ b ∧ b ≤ q ∧ q ≤ els.length) [(m, .row T s els)] .j []
              | _, _, _ => .bad
          | _, _ => .bad
        | none => .bad
      | _ => .bad
    | .slice e, .sl m s l h => match σ m with
      | .row T s' els => match tiOf P e with
        | some eti => match bndSV 0 lo, bndSV ((h - l : Nat) : Int) hi, mx with
          | some a, some b, none => .ok (0 ≤ a ∧ a ≤ b ∧ (l : Int) + b ≤ els.length ∧ s = eti.size) [(m, .row T s' els)] (.sl m s (l + a.toNat) (l + b.toNat)) []
          | _, _, _ => .bad
        | none => .bad
      | _ => .bad
    | _, _ => .bad
  | none => .bad

theorem bnd_val {β : List Value} {Φ : Fz} {g : Operand → SV} {ρ : Operand → Value} (hg : ∀ x, V β Φ (g x) (ρ x)) {d : Int} {b : Operand} {n : Int} (h : natSV (g b) = some n) : ∃ k, ρ b = .int k n := by
  have hv := hg b
  generalize g b = y at *
  unfold natSV at h
  split at h <;> cases h
  exact ⟨_, hv.inv_i⟩

theorem V.fz_cut {β : List Value} {Φ : Fz} {els : List (List PV)} {c : Option Nat} {v : Value} (h : V β Φ (.u (.fz els c)) v) {l q m size : Nat} (h1 : l ≤ q) (h2 : q ≤ els.length) (hq : q ≤ m)
    (hsize : ∀ e ∈ els, e.length = size) {a : Option Addr} {cap : Nat} (hv : v = .slice a els.length cap) (hm : m ≤ cap) {c' : Option Nat} (hc' : ∀ k, c' = some k → k = m - l) :
    V β Φ (.u (.fz ((els.take q).drop l) c')) (sliced a l q m size) := by
  obtain ⟨sz, a', cap', f, hv', q1, q2, q3, q4, q5, q6, q7⟩ := h.inv_fz
  rw [hv] at hv'
  cases hv'
  have hlen : ((els.take q).drop l).length = q - l := by simp; omega
  unfold sliced
  rw [show q - l = ((els.take q).drop l).length from hlen.symm]
  have hget : ∀ (i : Nat) e, ((els.take q).drop l)[i]? = some e → els[l + i]? = some e ∧ l + i < q := by
    intro i e he
    rw [List.getElem?_drop, List.getElem?_take] at he
    split at he
    · exact ⟨he, by omega⟩
    · cases he
  refine .u _ _ (.fz size _ c' _ _ (fun i j => f (l + i) j) (fun e he => hsize e (List.mem_of_mem_take (List.mem_of_mem_drop he))) (by omega) (by omega) hc' (fun h0 => ?_) (fun i e j x ad he hx had => ?_) fun i e j x he hx => ?_)
  · rw [if_neg (by omega)]
    obtain ⟨ad, rfl⟩ := Option.isSome_iff_exists.1 (q5 (by omega))
    rfl
  · obtain ⟨he', hlt⟩ := hget i e he
    have hsz : sz = size := by rw [← q1 e (List.mem_of_getElem? he'), hsize e (List.mem_of_getElem? he')]
    subst hsz
    rw [if_neg (by omega)] at had
    obtain ⟨a0, rfl, rfl⟩ := Option.map_eq_some_iff.1 had
    rw [add_add, show l * sz + (i * sz + j) = (l + i) * sz + j by rw [Nat.add_mul]; omega]
    exact q6 (l + i) e j x a0 he' hx rfl
  · exact q7 _ e j x (hget i e he).1 hx

theorem op_slice {P : Program} {o : Oper} {g : Operand → SV} {t : TypeId} {x : Operand} {lo hi mx : Option Operand} (ho : o.op = .slice t x lo hi mx) {ob : Prop} {rd : List (Nat × SObj)} {r : SV} {wr : List (Nat × SObj)}
    {σf : Nat → SObj} (he : evSlice P σf t (g x) (lo.map g) (hi.map g) (mx.map g) = .ok ob rd r wr) (hob : ob) : OpR P o g rd r wr := by
  unfold evSlice at he
  split at he <;> try cases he
  rename_i ti ht
  have hex : ∀ (ρ : Operand → Value) (w : World) (v : Value), (Instr.slice t (ρ x) (lo.map ρ) (hi.map ρ) (mx.map ρ)).run P w = .ok v w → (P.underlying t = some .string ∨ P.underlying t = some (.slice (P.elem t))) → (execOp ρ o).run P w = .ok (.value v) w := by
    intro ρ w v h1 h2
    simp only [execOp, ho, Sem.run_bind]
    rcases h2 with h2 | h2
    · rw [run_sliceAt_string w t _ _ _ _ h2, h1]; rfl
    · rw [run_sliceAt_slice w t _ _ _ _ h2, h1]; rfl
  split at he
  · rename_i l hk hx
    have hu := str_of ht hk
    split at he <;> try cases he
    rename_i a b ha hb hm
    have hmx : mx = none := by cases mx <;> simp at hm ⊢
    subst hmx
    obtain ⟨h0, h1, h2⟩ := hob
    refine OpR.pure fun β Φ ρ w hg => ?_
    have hv := (hx ▸ hg x : V β Φ (.u (.s l)) (ρ x)).inv_s
    have hsize : (⟨l.toArray⟩ : ByteArray).size = l.length := by simp [ByteArray.size]
    refine ⟨_, hex ρ w _ ?_ (.inl hu), V.mk_s _⟩
    rw [hv]
    have hext : ∀ p q : Nat, (⟨l.toArray⟩ : ByteArray).extract p q = ⟨((l.take q).drop p).toArray⟩ := by
      intro p q
      rw [ByteArray.extract_mk, List.take_drop]
      by_cases hpq : p ≤ q
      · rw [show p + (q - p) = q by omega]
      · rw [List.drop_eq_nil_of_le (by simp; omega), List.drop_eq_nil_of_le (by simp; omega)]
    cases lo with
    | none =>
      cases ha
      cases hi with
      | none =>
        cases hb
        have := run_slice_string_all (P := P) w t ⟨l.toArray⟩ hu
        rw [hsize, hext] at this
        simpa using this
      | some kh =>
        obtain ⟨k, hk'⟩ := bnd_val hg (d := 0) hb
        have := run_slice_string_h (P := P) w t ⟨l.toArray⟩ hu k b (by omega) (by rw [hsize]; omega)
        rw [hext] at this
        simpa [hk'] using this
    | some kl =>
      obtain ⟨k1, hk1⟩ := bnd_val hg (d := 0) ha
      cases hi with
      | none =>
        cases hb
        have := run_slice_string_l (P := P) w t ⟨l.toArray⟩ hu k1 a (by omega) (by rw [hsize]; omega)
        rw [hsize, hext] at this
        simpa [hk1] using this
      | some kh =>
        obtain ⟨k2, hk2⟩ := bnd_val hg (d := 0) hb
        have := run_slice_string (P := P) w t ⟨l.toArray⟩ k1 k2 a b hu h0 h1 (by rw [hsize]; omega)
        rw [hext] at this
        simpa [hk1, hk2] using this
  · rename_i e els c hk hx
    have hu := slice_of ht hk
    split at he <;> try cases he
    rename_i eti hte
    have hue : P.underlying t = some (.slice (P.elem t)) := by simp [Program.elem, hu]
    have helem : P.elem t = e := by simp [Program.elem, hu]
    split at he <;> try cases he
    rename_i a b ha hb
    split at he
    · cases he
      rename_i hm
      have hmx : mx = none := by cases mx <;> simp at hm ⊢
      subst hmx
      obtain ⟨h0, h1, h2, hsz'⟩ := hob
      refine OpR.pure fun β Φ ρ w hg => ?_
      have hV : V β Φ (.u (.fz els c)) (ρ x) := hx ▸ hg x
      obtain ⟨sz, ad, cap, f, hv, _, hlc, hmc, hcc, _⟩ := hV.inv_fz
      refine ⟨sliced ad a.toNat b.toNat cap eti.size, hex ρ w _ ?_ (.inr hue), hV.fz_cut (by omega) (by omega) (by omega) hsz' hv (Nat.le_refl _) (fun k hk => ?_)⟩
      · rw [hv]
        cases lo with
        | none =>
          cases ha
          cases hi with
          | none =>
            cases hb
            have := run_slice_all (P := P) w t ad els.length cap hue
            rw [helem, run_sizeOf hte] at this
            simpa using this
          | some kh =>
            obtain ⟨k, hk'⟩ := bnd_val hg (d := 0) hb
            have := run_slice_h (P := P) w t ad els.length cap hue k b (by omega) (by omega)
            rw [helem, run_sizeOf hte] at this
            simpa [hk'] using this
        | some kl =>
          obtain ⟨k1, hk1⟩ := bnd_val hg (d := 0) ha
          cases hi with
          | none =>
            cases hb
            have := run_slice_l (P := P) w t ad els.length cap hue k1 a (by omega) (by omega)
            rw [helem, run_sizeOf hte] at this
            simpa [hk1] using this
          | some kh =>
            obtain ⟨k2, hk2⟩ := bnd_val hg (d := 0) hb
            have := run_slice_lh (P := P) w t ad els.length cap hue k1 k2 a b (by omega) (by omega) (by omega)
            rw [helem, run_sizeOf hte] at this
            simpa [hk1, hk2] using this
      · obtain ⟨q, hq, rfl⟩ := Option.map_eq_some_iff.1 hk
        rw [hcc q hq]
    · rename_i m hm
      split at he <;> cases he
      rename_i kh0 q hhi hqv
      obtain ⟨h0, h1, h2, h3, hsz'⟩ := hob
      obtain ⟨km, rfl, hkm⟩ : ∃ y, mx = some y ∧ g y = m := by
        cases mx with
        | none => simp at hm
        | some y => exact ⟨y, rfl, by simpa using hm⟩
      obtain ⟨kh, rfl⟩ : ∃ y, hi = some y := by
        cases hi with
        | none => cases hhi
        | some y => exact ⟨y, rfl⟩
      refine OpR.pure fun β Φ ρ w hg => ?_
      have hV : V β Φ (.u (.fz els c)) (ρ x) := hx ▸ hg x
      obtain ⟨sz, ad, cap, f, hv, _, hlc, hmc, hcc, _⟩ := hV.inv_fz
      obtain ⟨k3, hk3⟩ := bnd_val hg (d := 0) (hkm ▸ hqv)
      obtain ⟨k2, hk2⟩ := bnd_val hg (d := 0) hb
      refine ⟨sliced ad a.toNat b.toNat q.toNat eti.size, hex ρ w _ ?_ (.inr hue), hV.fz_cut (by omega) (by omega) (by omega) hsz' hv (by omega) (fun k hk => by cases hk; rfl)⟩
      rw [hv]
      cases lo with
      | none =>
        cases ha
        have := run_slice_hm (P := P) w t ad els.length cap hue k2 k3 b q (by omega) (by omega) (by omega)
        rw [helem, run_sizeOf hte] at this
        simpa [hk2, hk3] using this
      | some kl =>
        obtain ⟨k1, hk1⟩ := bnd_val hg (d := 0) ha
        have := run_slice_lhm (P := P) w t ad els.length cap hue k1 k2 k3 a b q (by omega) (by omega) (by omega) (by omega)
        rw [helem, run_sizeOf hte] at this
        simpa [hk1, hk2, hk3] using this
  · rename_i e m hk hx
    have hu := slice_of ht hk
    have hue : P.underlying t = some (.slice (P.elem t)) := by simp [Program.elem, hu]
    have helem : P.elem t = e := by simp [Program.elem, hu]
    split at he <;> try cases he
    rename_i T s els hσ
    split at he <;> try cases he
    rename_i eti hte
    split at he <;> try cases he
    rename_i a b ha hb
    split at he
    · cases he
      rename_i hm
      have hmx : mx = none := by cases mx <;> simp at hm ⊢
      subst hmx
      obtain ⟨h0, h1, h2, h3, rfl⟩ := hob
      refine OpR.read fun w0 ω0 β Φ ω σ w ρ hR hg hrd => ?_
      obtain ⟨v, hβ, hO⟩ := hR.at_ (hrd m (.row T eti.size els) (by simp))
      have hv := ((hx ▸ hg x : V β Φ (.h m) (ρ x)).inv_h).1
      rw [hβ] at hv
      have hv := (Option.some.inj hv).symm
      rcases hO with ⟨_, _, rfl⟩ | ⟨bk, cap, cs, rfl, hω, hh, hcs, hcl, hmm, _⟩
      · simp at h3
      refine ⟨sliced (some ⟨bk, 0, none⟩) a.toNat b.toNat cap eti.size, hex ρ w _ ?_ (.inr hue), ?_⟩
      · rw [hv]
        cases lo with
        | none =>
          cases ha
          cases hi with
          | none =>
            cases hb
            have := run_slice_all (P := P) w t (some ⟨bk, 0, none⟩) els.length cap hue
            rw [helem, run_sizeOf hte] at this
            simpa using this
          | some kh =>
            obtain ⟨k, hk'⟩ := bnd_val hg (d := 0) hb
            have := run_slice_h (P := P) w t (some ⟨bk, 0, none⟩) els.length cap hue k b (by omega) (by omega)
            rw [helem, run_sizeOf hte] at this
            simpa [hk'] using this
        | some kl =>
          obtain ⟨k1, hk1⟩ := bnd_val hg (d := 0) ha
          cases hi with
          | none =>
            cases hb
            have := run_slice_l (P := P) w t (some ⟨bk, 0, none⟩) els.length cap hue k1 a (by omega) (by omega)
            rw [helem, run_sizeOf hte] at this
            simpa [hk1] using this
          | some kh =>
            obtain ⟨k2, hk2⟩ := bnd_val hg (d := 0) hb
            have := run_slice_lh (P := P) w t (some ⟨bk, 0, none⟩) els.length cap hue k1 k2 a b (by omega) (by omega) (by omega)
            rw [helem, run_sizeOf hte] at this
            simpa [hk1, hk2] using this
      · have := V.sl (Φ := Φ) m eti.size a.toNat b.toNat ⟨bk, 0, none⟩ (if cap = a.toNat then (⟨bk, 0, none⟩ : Addr) else (⟨bk, 0, none⟩ : Addr).add (a.toNat * eti.size)) _ cap hβ (by omega) (by omega) (fun h => by rw [if_neg (by omega)])
        unfold sliced
        split <;> simp_all
    · rename_i kq hm
      split at he <;> cases he
      rename_i kl0 kh0 q hlo hhi hqv
      obtain ⟨h0, h1, h2, h3⟩ := hob
      obtain ⟨km, rfl, hkm⟩ : ∃ y, mx = some y ∧ g y = kq := by
        cases mx with
        | none => simp at hm
        | some y => exact ⟨y, rfl, by simpa using hm⟩
      obtain ⟨kh, rfl⟩ : ∃ y, hi = some y := by
        cases hi with
        | none => cases hhi
        | some y => exact ⟨y, rfl⟩
      obtain ⟨kl, rfl⟩ : ∃ y, lo = some y := by
        cases lo with
        | none => cases hlo
        | some y => exact ⟨y, rfl⟩
      refine OpR.read fun w0 ω0 β Φ ω σ w ρ hR hg hrd => ?_
      obtain ⟨v, hβ, hO⟩ := hR.at_ (hrd m (.row T s els) (by simp))
      have hv := ((hx ▸ hg x : V β Φ (.h m) (ρ x)).inv_h).1
      rw [hβ] at hv
      have hv := (Option.some.inj hv).symm
      obtain ⟨ad, cap, hvv, hcl⟩ : ∃ ad cap, v = .slice ad els.length cap ∧ els.length ≤ cap := by
        rcases hO with ⟨ad, rfl, rfl⟩ | ⟨bk, cap, cs, rfl, hω, hh, hcs, hcl, hmm, _⟩
        · exact ⟨ad, 0, rfl, Nat.le_refl _⟩
        · exact ⟨_, cap, rfl, hcl⟩
      obtain ⟨k3, hk3⟩ := bnd_val hg (d := 0) (hkm ▸ hqv)
      obtain ⟨k2, hk2⟩ := bnd_val hg (d := 0) hb
      obtain ⟨k1, hk1⟩ := bnd_val hg (d := 0) ha
      refine ⟨sliced ad a.toNat b.toNat q.toNat eti.size, hex ρ w _ ?_ (.inr hue), .j _⟩
      rw [hv, hvv]
      have := run_slice_lhm (P := P) w t ad els.length cap hue k1 k2 k3 a b q (by omega) (by omega) (by omega) (by omega)
      rw [helem, run_sizeOf hte] at this
      simpa [hk1, hk2, hk3] using this
  · rename_i e m s l h hk hx
    have hu := slice_of ht hk
    have hue : P.underlying t = some (.slice (P.elem t)) := by simp [Program.elem, hu]
    have helem : P.elem t = e := by simp [Program.elem, hu]
    split at he <;> try cases he
    rename_i T s' els hσ
    split at he <;> try cases he
    rename_i eti hte
    split at he <;> try cases he
    rename_i a b ha hb hm
    have hmx : mx = none := by cases mx <;> simp at hm ⊢
    subst hmx
    obtain ⟨h0, h1, h2, rfl⟩ := hob
    refine OpR.read fun w0 ω0 β Φ ω σ w ρ hR hg hrd => ?_
    obtain ⟨v, hβ, hO⟩ := hR.at_ (hrd m (.row T s' els) (by simp))
    obtain ⟨ad, ad', ln, c, hβ', hv, q1, q2, q3⟩ := (hx ▸ hg x : V β Φ (.sl m eti.size l h) (ρ x)).inv_sl
    rw [hβ] at hβ'
    have hvv := Option.some.inj hβ'
    have hc : els.length ≤ c := by
      rcases hO with ⟨ax, hv0, rfl⟩ | ⟨bk, cap, cs, hv0, hω, hh, hcs, hcl, hmm, _⟩
      · exact Nat.zero_le _
      · rw [hv0] at hvv; cases hvv; exact hcl
    rw [hvv] at hβ
    refine ⟨sliced (some ad') a.toNat b.toNat (c - l) eti.size, hex ρ w _ ?_ (.inr hue), ?_⟩
    · rw [hv]
      cases lo with
      | none =>
        cases ha
        cases hi with
        | none =>
          cases hb
          have := run_slice_all (P := P) w t (some ad') (h - l) (c - l) hue
          rw [helem, run_sizeOf hte] at this
          simpa using this
        | some kh =>
          obtain ⟨k, hk'⟩ := bnd_val hg (d := 0) hb
          have := run_slice_h (P := P) w t (some ad') (h - l) (c - l) hue k b (by omega) (by omega)
          rw [helem, run_sizeOf hte] at this
          simpa [hk'] using this
      | some kl =>
        obtain ⟨k1, hk1⟩ := bnd_val hg (d := 0) ha
        cases hi with
        | none =>
          cases hb
          have := run_slice_l (P := P) w t (some ad') (h - l) (c - l) hue k1 a (by omega) (by omega)
          rw [helem, run_sizeOf hte] at this
          simpa [hk1] using this
        | some kh =>
          obtain ⟨k2, hk2⟩ := bnd_val hg (d := 0) hb
          have := run_slice_lh (P := P) w t (some ad') (h - l) (c - l) hue k1 k2 a b (by omega) (by omega) (by omega)
          rw [helem, run_sizeOf hte] at this
          simpa [hk1, hk2] using this
    · have := V.sl (Φ := Φ) m eti.size (l + a.toNat) (l + b.toNat) ad (if c - l = a.toNat then ad' else ad'.add (a.toNat * eti.size)) _ c hβ (by omega) (by omega) (fun hlt => by
        rw [if_neg (by omega), q3 (by omega), add_add, Nat.add_mul])
      unfold sliced
      have e1 : l + b.toNat - (l + a.toNat) = b.toNat - a.toNat := by omega
      have e2 : c - (l + a.toNat) = c - l - a.toNat := by omega
      rw [e1, e2] at this
      split <;> simp_all
  · cases he

/-! ### lengths -/
def evLen (P : Program) (σ : Nat → SObj) (t : TypeId) (x : SV) : Ev :=
  match tiOf P t with
  | some ti => match ti.kind, x with
    | .str, .u (.s l) => .ok True [] (.u (.i .i64 l.length)) []
    | .slice _, .u (.fz els _) => .ok True [] (.u (.i .i64 els.length)) []
    | .slice _, .h n => match σ n with
      | .row T s els => .ok True [(n, .row T s els)] (.u (.i .i64 els.length)) []
      | _ => .bad
    | .slice _, .sl _ _ lo hi => .ok True [] (.u (.i .i64 ((hi - lo : Nat) : Int))) []
    | .map _ _, .u .nm => .ok True [] (.u (.i .i64 0)) []
    | .map _ _, .h n => match σ n with
      | .map es => .ok True [(n, .map es)] (.u (.i .i64 es.length)) []
      | _ => .bad
    | _, _ => .bad
  | none => .bad

theorem op_len {P : Program} {o : Oper} {g : Operand → SV} {t : TypeId} {x : Operand} (ho : o.op = .call { callee := .builtin .len, args := #[x], argTypes := #[t] }) {σf : Nat → SObj} {ob : Prop} {rd : List (Nat × SObj)} {r : SV} {wr : List (Nat × SObj)}
    (he : evLen P σf t (g x) = .ok ob rd r wr) : OpR P o g rd r wr := by
  have hex : ∀ (ρ : Operand → Value) (w : World) (v : Value), (Builtin.len_ #[t] o.type #[ρ x]).run P w = .ok v w → (execOp ρ o).run P w = .ok (.value v) w := by
    intro ρ w v h
    simp [execOp, ho, resolve, invoke, builtin, h]
  unfold evLen at he
  split at he <;> try cases he
  rename_i ti ht
  split at he
  · rename_i l hk hx
    cases he
    refine OpR.pure fun β Φ ρ w hg => ⟨_, hex ρ w (.int .i64 l.length) ?_, V.mk_i _ _⟩
    rw [(hx ▸ hg x : V β Φ (.u (.s l)) (ρ x)).inv_s]
    have hsize : (⟨l.toArray⟩ : ByteArray).size = l.length := by simp [ByteArray.size]
    simp [Builtin.len_, run_underlying (str_of ht hk), goInt, hsize]
  · rename_i e els c hk hx
    cases he
    refine OpR.pure fun β Φ ρ w hg => ?_
    obtain ⟨sz, a, cap, f, hv, _⟩ := (hx ▸ hg x : V β Φ (.u (.fz els c)) (ρ x)).inv_fz
    refine ⟨_, hex ρ w (.int .i64 els.length) ?_, V.mk_i _ _⟩
    rw [hv]
    simp [Builtin.len_, run_underlying (slice_of ht hk), goInt]
  · rename_i e n hk hx
    split at he <;> cases he
    rename_i T s els hσ
    refine OpR.read fun w0 ω0 β Φ ω σ w ρ hR hg hrd => ?_
    obtain ⟨v, hβ, hO⟩ := hR.at_ (hrd n (.row T s els) (by simp))
    have hv := ((hx ▸ hg x : V β Φ (.h n) (ρ x)).inv_h).1
    rw [hβ] at hv
    have hv := (Option.some.inj hv).symm
    refine ⟨_, hex ρ w (.int .i64 els.length) ?_, V.mk_i _ _⟩
    rcases hO with ⟨a, rfl, rfl⟩ | ⟨b, cap, cs, rfl, _⟩
    · rw [hv]; simp [Builtin.len_, run_underlying (slice_of ht hk), goInt]
    · rw [hv]; simp [Builtin.len_, run_underlying (slice_of ht hk), goInt]
  · rename_i e n s lo hi hk hx
    cases he
    refine OpR.pure fun β Φ ρ w hg => ?_
    obtain ⟨a, a', l, c, hβ, hv, _⟩ := (hx ▸ hg x : V β Φ (.sl n s lo hi) (ρ x)).inv_sl
    refine ⟨_, hex ρ w (.int .i64 ((hi - lo : Nat) : Int)) ?_, V.mk_i _ _⟩
    rw [hv]
    simp [Builtin.len_, run_underlying (slice_of ht hk), goInt]
  · rename_i k e hk hx
    cases he
    refine OpR.pure fun β Φ ρ w hg => ⟨_, hex ρ w (.int .i64 0) ?_, V.mk_i _ _⟩
    rw [(hx ▸ hg x : V β Φ (.u .nm) (ρ x)).inv_nm]
    simp [Builtin.len_, run_underlying (map_of ht hk), goInt]
  · rename_i k e n hk hx
    split at he <;> cases he
    rename_i es hσ
    refine OpR.read fun w0 ω0 β Φ ω σ w ρ hR hg hrd => ?_
    obtain ⟨v, hβ, b, es', ck, rfl, hω, hh, hs, _⟩ := hR.at_ (hrd n (.map es) (by simp))
    have hv := ((hx ▸ hg x : V β Φ (.h n) (ρ x)).inv_h).1
    rw [hβ] at hv
    have hv := (Option.some.inj hv).symm
    refine ⟨_, hex ρ w (.int .i64 es.length) ?_, V.mk_i _ _⟩
    rw [hv]
    simp [Builtin.len_, run_underlying (map_of ht hk), goInt, getObj, Sem.run, hh, hs]
  · cases he
end Go.Nm
