/- A small name-level logic over the model: values as trees, memory as a list of named objects. Definitions and monotonicity. -/
import Derived.WalkKit
import GoSem.ClaimData
set_option linter.all false
set_option linter.unusedSimpArgs false
set_option linter.unusedVariables false
namespace Go.Nm

/-- pure values: no reference into memory that may still change -/
inductive PV where
  | b (x : Bool)
  | i (k : IntKind) (n : Int)
  | s (x : List UInt8)
  | np | nm | nfn
  | fp (cells : List PV)
  | fz (elems : List (List PV)) (cap : Option Nat)
  | fn (f : FuncId) (caps : List PV)
  | agg (cells : List PV)
  | tup (vs : List PV)

/-- values: pure ones, and references by name -/
inductive SV where
  | u (x : PV)
  | p (n off : Nat)
  | rp (n sz i off : Nat)
  | sl (n sz lo hi : Nat)
  | h (n : Nat)
  | fn (f : FuncId) (caps : List SV)
  | agg (cells : List SV)
  | tup (vs : List SV)
  | gd (k : List (Nat × Bool)) (c : Bool) (x : SV)
  | j

inductive SObj where
  | cells (vs : List SV)
  | row (e : TypeId) (sz : Nat) (els : List (List PV))
  | buf (e : TypeId) (sz : Nat) (es : List (Option (List PV)))
  | map (es : List (PV × PV))
  | dead
  | unborn

abbrev Fz := Nat → Option Obj

def Fz.cell (Φ : Fz) (a : Addr) : Option Value :=
  match Φ a.block with
  | some (.cells c _ _) => if a.spot.isSome then none else c[a.off]?
  | _ => none

def Fz.le (Φ Φ' : Fz) : Prop := ∀ b o, Φ b = some o → Φ' b = some o

theorem Fz.le_refl (Φ : Fz) : Φ.le Φ := fun _ _ h => h
theorem Fz.le_trans {a b c : Fz} (h : a.le b) (k : b.le c) : a.le c := fun x o hx => k x o (h x o hx)

theorem Fz.cell_mono {Φ Φ' : Fz} (h : Φ.le Φ') {a : Addr} {v : Value} (hv : Φ.cell a = some v) : Φ'.cell a = some v := by
  unfold Fz.cell at hv ⊢
  cases hb : Φ a.block with
  | none => simp [hb] at hv
  | some o => rw [h _ _ hb]; rw [hb] at hv; exact hv

inductive VP (Φ : Fz) : PV → Value → Prop
  | b (x : Bool) : VP Φ (.b x) (.bool x)
  | i (k : IntKind) (n : Int) : VP Φ (.i k n) (.int k n)
  | s (l : List UInt8) : VP Φ (.s l) (.string ⟨l.toArray⟩)
  | np : VP Φ .np (.pointer none)
  | nm : VP Φ .nm (.map none)
  | nfn : VP Φ .nfn .nilFunc
  | fp (cells : List PV) (a : Addr) (f : Nat → Value) (h1 : ∀ (j : Nat) x, cells[j]? = some x → Φ.cell (a.add j) = some (f j))
      (h2 : ∀ (j : Nat) x, cells[j]? = some x → VP Φ x (f j)) : VP Φ (.fp cells) (.pointer (some a))
  | fz (sz : Nat) (elems : List (List PV)) (c : Option Nat) (a : Option Addr) (cap : Nat) (f : Nat → Nat → Value)
      (hsz : ∀ e ∈ elems, e.length = sz) (hl : elems.length ≤ cap) (hm : cap ≤ maxLen) (hc : ∀ k, c = some k → k = cap) (ha : 0 < elems.length → a.isSome = true)
      (h1 : ∀ (i : Nat) e (j : Nat) x ad, elems[i]? = some e → e[j]? = some x → a = some ad → Φ.cell (ad.add (i * sz + j)) = some (f i j))
      (h2 : ∀ (i : Nat) e (j : Nat) x, elems[i]? = some e → e[j]? = some x → VP Φ x (f i j)) : VP Φ (.fz elems c) (.slice a elems.length cap)
  | fn (f : FuncId) (caps : List PV) (vs : List Value) (hl : vs.length = caps.length)
      (h : ∀ (j : Nat) x (v : Value), caps[j]? = some x → vs[j]? = some v → VP Φ x v) : VP Φ (.fn f caps) (.func (.func f) #[] vs.toArray)
  | agg (cs : List PV) (vs : List Value) (hl : vs.length = cs.length)
      (h : ∀ (j : Nat) x (v : Value), cs[j]? = some x → vs[j]? = some v → VP Φ x v) : VP Φ (.agg cs) (.agg vs.toArray)
  | tup (cs : List PV) (vs : List Value) (hl : vs.length = cs.length)
      (h : ∀ (j : Nat) x (v : Value), cs[j]? = some x → vs[j]? = some v → VP Φ x v) : VP Φ (.tup cs) (.tuple vs.toArray)

theorem VP.mono {Φ Φ' : Fz} (hle : Φ.le Φ') {x : PV} {v : Value} (h : VP Φ x v) : VP Φ' x v := by
  induction h with
  | b x => exact .b x
  | i k n => exact .i k n
  | s l => exact .s l
  | np => exact .np
  | nm => exact .nm
  | nfn => exact .nfn
  | fp cells a f h1 _ ih => exact .fp cells a f (fun j x hj => Fz.cell_mono hle (h1 j x hj)) ih
  | fz sz elems c a cap f hsz hl hm hc ha h1 _ ih =>
    exact .fz sz elems c a cap f hsz hl hm hc ha (fun i e j x ad hi hj had => Fz.cell_mono hle (h1 i e j x ad hi hj had)) ih
  | fn f caps vs hl _ ih => exact .fn f caps vs hl ih
  | agg cs vs hl _ ih => exact .agg cs vs hl ih
  | tup cs vs hl _ ih => exact .tup cs vs hl ih

def isRef : Value → Bool
  | .pointer _ | .map _ | .slice _ _ _ => true
  | _ => false

inductive V (β : List Value) (Φ : Fz) : SV → Value → Prop
  | u (x : PV) (v : Value) (h : VP Φ x v) : V β Φ (.u x) v
  | p (n off : Nat) (a : Addr) (h : β[n]? = some (.pointer (some a))) : V β Φ (.p n off) (.pointer (some (a.add off)))
  | rp (n sz i off : Nat) (a : Addr) (l c : Nat) (h : β[n]? = some (.slice (some a) l c)) : V β Φ (.rp n sz i off) (.pointer (some (a.add (i * sz + off))))
  | sl (n sz lo hi : Nat) (a a' : Addr) (l c : Nat) (h : β[n]? = some (.slice (some a) l c)) (h1 : lo ≤ hi) (h2 : hi ≤ c) (ha : lo < c → a' = a.add (lo * sz)) : V β Φ (.sl n sz lo hi) (.slice (some a') (hi - lo) (c - lo))
  | h (n : Nat) (v : Value) (h : β[n]? = some v) (hr : isRef v = true) : V β Φ (.h n) v
  | fn (f : FuncId) (caps : List SV) (vs : List Value) (hl : vs.length = caps.length)
      (h : ∀ (j : Nat) x (v : Value), caps[j]? = some x → vs[j]? = some v → V β Φ x v) : V β Φ (.fn f caps) (.func (.func f) #[] vs.toArray)
  | agg (cs : List SV) (vs : List Value) (hl : vs.length = cs.length)
      (h : ∀ (j : Nat) x (v : Value), cs[j]? = some x → vs[j]? = some v → V β Φ x v) : V β Φ (.agg cs) (.agg vs.toArray)
  | tup (cs : List SV) (vs : List Value) (hl : vs.length = cs.length)
      (h : ∀ (j : Nat) x (v : Value), cs[j]? = some x → vs[j]? = some v → V β Φ x v) : V β Φ (.tup cs) (.tuple vs.toArray)
  | gd (k : List (Nat × Bool)) (c : Bool) (x : SV) (v : Value) (h : c = true → V β Φ x v) (h0 : c = false → v = undef) : V β Φ (.gd k c x) v
  | j (v : Value) : V β Φ .j v

/-- references stay what they are -/
def BExt (β β' : List Value) : Prop := ∀ (n : Nat) (v : Value), β[n]? = some v → isRef v = true → β'[n]? = some v

theorem BExt.refl (β : List Value) : BExt β β := fun _ _ h _ => h
theorem BExt.trans {a b c : List Value} (h : BExt a b) (k : BExt b c) : BExt a c := fun n v hn hr => k n v (h n v hn hr) hr
theorem BExt.append (β l : List Value) : BExt β (β ++ l) := fun n v hn _ => by
  have hlt : n < β.length := (List.getElem?_eq_some_iff.1 hn).1
  rw [List.getElem?_append_left hlt]; exact hn

theorem V.mono {β β' : List Value} {Φ Φ' : Fz} (hb : BExt β β') (hle : Φ.le Φ') {x : SV} {v : Value} (h : V β Φ x v) : V β' Φ' x v := by
  induction h with
  | u x v h => exact .u x v (h.mono hle)
  | p n off a h => exact .p n off a (hb _ _ h rfl)
  | rp n sz i off a l c h => exact .rp n sz i off a l c (hb _ _ h rfl)
  | sl n sz lo hi a a' l c h h1 h2 ha => exact .sl n sz lo hi a a' l c (hb _ _ h rfl) h1 h2 ha
  | h n v h hr => exact .h n v (hb _ _ h hr) hr
  | fn f caps vs hl _ ih => exact .fn f caps vs hl ih
  | agg cs vs hl _ ih => exact .agg cs vs hl ih
  | tup cs vs hl _ ih => exact .tup cs vs hl ih
  | gd k c x v _ h0 ih => exact .gd k c x v ih h0
  | j v => exact .j v

/-! renaming -/
def SV.mv (ρ : Nat → Option Nat) : SV → SV
  | .u x => .u x
  | .p n off => match ρ n with | some m => .p m off | none => .j
  | .rp n sz i off => match ρ n with | some m => .rp m sz i off | none => .j
  | .sl n sz lo hi => match ρ n with | some m => .sl m sz lo hi | none => .j
  | .h n => match ρ n with | some m => .h m | none => .j
  | .fn f caps => .fn f (caps.map (SV.mv ρ))
  | .agg cs => .agg (cs.map (SV.mv ρ))
  | .tup cs => .tup (cs.map (SV.mv ρ))
  | .gd k c x => .gd k c (SV.mv ρ x)
  | .j => .j

theorem V.mv {β β' : List Value} {Φ : Fz} {ρ : Nat → Option Nat} (hρ : ∀ (n m : Nat) (v : Value), ρ n = some m → β[n]? = some v → isRef v = true → β'[m]? = some v) {x : SV} {v : Value} (h : V β Φ x v) :
    V β' Φ (x.mv ρ) v := by
  induction h with
  | u x v h => rw [SV.mv]; exact .u x v h
  | p n off a h =>
    rw [SV.mv]
    cases hn : ρ n with
    | some m => exact .p m off a (hρ n m _ hn h rfl)
    | none => exact .j _
  | rp n sz i off a l c h =>
    rw [SV.mv]
    cases hn : ρ n with
    | some m => exact .rp m sz i off a l c (hρ n m _ hn h rfl)
    | none => exact .j _
  | sl n sz lo hi a a' l c h h1 h2 ha =>
    rw [SV.mv]
    cases hn : ρ n with
    | some m => exact .sl m sz lo hi a a' l c (hρ n m _ hn h rfl) h1 h2 ha
    | none => exact .j _
  | h n v h hr =>
    rw [SV.mv]
    cases hn : ρ n with
    | some m => exact .h m v (hρ n m _ hn h hr) hr
    | none => exact .j _
  | fn f caps vs hl _ ih =>
    rw [SV.mv]
    refine .fn f _ vs (by simpa using hl) fun j x v hx hv => ?_
    rw [List.getElem?_map] at hx
    obtain ⟨y, hy, rfl⟩ := Option.map_eq_some_iff.1 hx
    exact ih j y v hy hv
  | agg cs vs hl _ ih =>
    rw [SV.mv]
    refine .agg _ vs (by simpa using hl) fun j x v hx hv => ?_
    rw [List.getElem?_map] at hx
    obtain ⟨y, hy, rfl⟩ := Option.map_eq_some_iff.1 hx
    exact ih j y v hy hv
  | tup cs vs hl _ ih =>
    rw [SV.mv]
    refine .tup _ vs (by simpa using hl) fun j x v hx hv => ?_
    rw [List.getElem?_map] at hx
    obtain ⟨y, hy, rfl⟩ := Option.map_eq_some_iff.1 hx
    exact ih j y v hy hv
  | gd k c x v _ h0 ih => rw [SV.mv]; exact .gd k c _ v ih h0
  | j v => rw [SV.mv]; exact .j v

def SObj.mv (ρ : Nat → Option Nat) : SObj → SObj
  | .cells vs => .cells (vs.map (SV.mv ρ))
  | .row e sz els => .row e sz els
  | .buf e sz es => .buf e sz es
  | .map es => .map es
  | .dead => .dead
  | .unborn => .dead

/-! objects in memory -/
def Stamps (es : Array MapEntry) (ck : Nat) : Prop := (∀ e ∈ es.toList, e.born < ck) ∧ (es.toList.map MapEntry.born).Nodup

def O (β : List Value) (Φ : Fz) (heap : Array Obj) (ω : Nat → Nat) (n : Nat) : SObj → Value → Prop
  | .cells vs, v => ∃ b cs T, v = .pointer (some ⟨b, 0, none⟩) ∧ ω b = n + 2 ∧ heap[b]? = some (.cells cs T (0, 0)) ∧ cs.size = vs.length ∧
      ∀ (j : Nat) x u, vs[j]? = some x → cs[j]? = some u → V β Φ x u
  | .row T sz els, v => (∃ a, v = .slice a 0 0 ∧ els = []) ∨
      ∃ b cap cs, v = .slice (some ⟨b, 0, none⟩) els.length cap ∧ ω b = n + 2 ∧ heap[b]? = some (.cells cs T (0, 0)) ∧ cs.size = cap * sz ∧ els.length ≤ cap ∧ cap ≤ maxLen ∧
        (∀ e ∈ els, e.length = sz) ∧ ∀ (i : Nat) e (j : Nat) x u, els[i]? = some e → e[j]? = some x → cs[i * sz + j]? = some u → VP Φ x u
  | .buf T sz es, v => ∃ b l cs, v = .slice (some ⟨b, 0, none⟩) l es.length ∧ ω b = n + 2 ∧ heap[b]? = some (.cells cs T (0, 0)) ∧ cs.size = es.length * sz ∧ l ≤ es.length ∧ es.length ≤ maxLen ∧
        (∀ e, some e ∈ es → e.length = sz) ∧ ∀ (i : Nat) e (j : Nat) x u, es[i]? = some (some e) → e[j]? = some x → cs[i * sz + j]? = some u → VP Φ x u
  | .map es, v => ∃ r es' ck, v = .map (some r) ∧ ω r = n + 2 ∧ heap[r]? = some (.map es' ck) ∧ es'.size = es.length ∧ Stamps es' ck ∧
      ∀ (i : Nat) k x e, es[i]? = some (k, x) → es'[i]? = some e → VP Φ k e.key ∧ VP Φ x e.val
  | .dead, _ => True
  | .unborn, v => v = .bool false

theorem O.mono {β β' : List Value} {Φ Φ' : Fz} {heap heap' : Array Obj} {ω ω' : Nat → Nat} {n : Nat} {ob : SObj} {v : Value} (hb : BExt β β') (hle : Φ.le Φ')
    (hh : ∀ b, ω b = n + 2 → ω' b = n + 2 ∧ heap'[b]? = heap[b]?) (h : O β Φ heap ω n ob v) : O β' Φ' heap' ω' n ob v := by
  cases ob with
  | cells vs =>
    obtain ⟨b, cs, T, hv, hw, hc, hs, hj⟩ := h
    exact ⟨b, cs, T, hv, (hh b hw).1, (hh b hw).2.trans hc, hs, fun j x u hx hu => (hj j x u hx hu).mono hb hle⟩
  | row T sz els =>
    rcases h with h | ⟨b, cap, cs, hv, hw, hc, hs, hl, hm, he, hj⟩
    · exact .inl h
    · exact .inr ⟨b, cap, cs, hv, (hh b hw).1, (hh b hw).2.trans hc, hs, hl, hm, he, fun i e j x u h1 h2 h3 => (hj i e j x u h1 h2 h3).mono hle⟩
  | buf T sz es =>
    obtain ⟨b, l, cs, hv, hw, hc, hs, hl, hm, he, hj⟩ := h
    exact ⟨b, l, cs, hv, (hh b hw).1, (hh b hw).2.trans hc, hs, hl, hm, he, fun i e j x u h1 h2 h3 => (hj i e j x u h1 h2 h3).mono hle⟩
  | map es =>
    obtain ⟨r, es', ck, hv, hw, hc, hs, hst, hj⟩ := h
    exact ⟨r, es', ck, hv, (hh r hw).1, (hh r hw).2.trans hc, hs, hst, fun i k x e h1 h2 => ⟨(hj i k x e h1 h2).1.mono hle, (hj i k x e h1 h2).2.mono hle⟩⟩
  | dead => trivial
  | unborn => exact h

structure Rep (w0 : World) (ω0 : Nat → Nat) (β : List Value) (σ : List SObj) (Φ : Fz) (ω : Nat → Nat) (w : World) : Prop where
  os : w.os = w0.os
  tape : w.tape = w0.tape
  output : w.output = w0.output
  size : w0.heap.size ≤ w.heap.size
  frame : ∀ b, b < w0.heap.size → ω0 b = 0 → w.heap[b]? = w0.heap[b]? ∧ ω b = 0
  fz : ∀ b o, Φ b = some o → ω b = 1 ∧ w.heap[b]? = some o
  lt : ∀ b, ω b ≠ 0 → b < w.heap.size
  len : β.length = σ.length
  obj : ∀ (n : Nat) ob v, σ[n]? = some ob → β[n]? = some v → O β Φ w.heap ω n ob v

section
variable {w0 : World} {ω0 : Nat → Nat} {β : List Value} {σ : List SObj} {Φ : Fz} {ω : Nat → Nat} {w : World}

theorem Rep.at_ (h : Rep w0 ω0 β σ Φ ω w) {n : Nat} {ob : SObj} (hn : σ[n]? = some ob) : ∃ v, β[n]? = some v ∧ O β Φ w.heap ω n ob v := by
  have hlt : n < β.length := by rw [h.len]; exact (List.getElem?_eq_some_iff.1 hn).1
  exact ⟨_, List.getElem?_eq_getElem hlt, h.obj n ob _ hn (List.getElem?_eq_getElem hlt)⟩

/-- only the draws' count has moved -/
theorem Rep.of_heap (h : Rep w0 ω0 β σ Φ ω w) {w' : World} (hh : w'.heap = w.heap) (ho : w'.os = w.os) (ht : w'.tape = w.tape) (hu : w'.output = w.output) : Rep w0 ω0 β σ Φ ω w' :=
  ⟨ho.trans h.os, ht.trans h.tape, hu.trans h.output, by rw [hh]; exact h.size, by rw [hh]; exact h.frame, by rw [hh]; exact h.fz, by rw [hh]; exact h.lt, h.len, by rw [hh]; exact h.obj⟩

/-- a name's object turned, in its own blocks, or a new block -/
theorem Rep.upd (h : Rep w0 ω0 β σ Φ ω w) {n : Nat} {ob' : SObj} {v' : Value} {w' : World} {ω' : Nat → Nat} {Φ' : Fz} (hn : n < σ.length)
    (ho : w'.os = w.os) (ht : w'.tape = w.tape) (hu : w'.output = w.output) (hs : w.heap.size ≤ w'.heap.size)
    (hβ : ∀ v, β[n]? = some v → isRef v = true → v' = v)
    (others : ∀ b, b < w.heap.size → ω b ≠ n + 2 → w'.heap[b]? = w.heap[b]? ∧ ω' b = ω b)
    (lt' : ∀ b, ω' b ≠ 0 → b < w'.heap.size)
    (hle : Φ.le Φ') (hfz : ∀ b o, Φ' b = some o → ω' b = 1 ∧ w'.heap[b]? = some o)
    (hob : O (β.set n v') Φ' w'.heap ω' n ob' v') : Rep w0 ω0 (β.set n v') (σ.set n ob') Φ' ω' w' := by
  have hext : BExt β (β.set n v') := by
    intro m v hm hr
    by_cases e : m = n
    · subst e
      have hlt : m < β.length := (List.getElem?_eq_some_iff.1 hm).1
      rw [List.getElem?_set_self hlt, hβ v hm hr]
    · rw [List.getElem?_set_ne (fun h => e h.symm)]; exact hm
  refine ⟨ho.trans h.os, ht.trans h.tape, hu.trans h.output, Nat.le_trans h.size hs, fun b hb h0 => ?_, hfz, lt', by simp [h.len], fun m ob v hm hv => ?_⟩
  · obtain ⟨h1, h2⟩ := h.frame b hb h0
    have := others b (Nat.lt_of_lt_of_le hb h.size) (by rw [h2]; omega)
    exact ⟨this.1.trans h1, this.2.trans h2⟩
  · by_cases e : m = n
    · subst e
      rw [List.getElem?_set_self hn] at hm
      rw [List.getElem?_set_self (by rw [h.len]; exact hn)] at hv
      cases hm; cases hv
      exact hob
    · rw [List.getElem?_set_ne (fun h => e h.symm)] at hm hv
      refine (h.obj m ob v hm hv).mono hext hle fun b hb => ?_
      have hlt := h.lt b (by rw [hb]; omega)
      have := others b hlt (by rw [hb]; omega)
      exact ⟨this.2.trans hb, this.1⟩

/-- a name kept free -/
theorem Rep.reserve (h : Rep w0 ω0 β σ Φ ω w) (k : Nat) : Rep w0 ω0 (β ++ List.replicate k (.bool false)) (σ ++ List.replicate k .unborn) Φ ω w := by
  refine ⟨h.os, h.tape, h.output, h.size, h.frame, h.fz, h.lt, by simp [h.len], fun n ob v hn hv => ?_⟩
  by_cases hlt : n < σ.length
  · rw [List.getElem?_append_left hlt] at hn
    rw [List.getElem?_append_left (by rw [h.len]; exact hlt)] at hv
    exact (h.obj n ob v hn hv).mono (BExt.append _ _) (Fz.le_refl _) fun b hb => ⟨hb, rfl⟩
  · rw [List.getElem?_append_right (by omega)] at hn
    rw [List.getElem?_append_right (by rw [h.len]; omega)] at hv
    have h1 := List.eq_of_mem_replicate (List.mem_of_getElem? hn)
    have h2 := List.eq_of_mem_replicate (List.mem_of_getElem? hv)
    subst h1 h2
    rfl
end

end Go.Nm
