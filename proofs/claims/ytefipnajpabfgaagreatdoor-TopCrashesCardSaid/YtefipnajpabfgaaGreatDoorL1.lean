/- A small logic over the model: values as trees, memory as a list of named objects. -/
import Derived.WalkKit
import GoSem.ClaimData
import Derived.Laws.Entries
import Derived.Laws.StructEq
import Derived.Laws.Cells
import Derived.Laws.Rows
import Derived.Laws.CopyRow
import Derived.Laws.Slices
import Derived.IntWalk
import Derived.Laws.Tables
import Derived.Laws.Cover1
import Derived.Laws.Concat
import Derived.Laws.Strings2
import Derived.Laws.Pointers
set_option linter.all false
set_option maxRecDepth 40000
set_option maxHeartbeats 16000000
set_option linter.unusedSimpArgs false
set_option linter.unusedVariables false
/- A small name-level logic over the model: values as trees, memory as a list of named objects. Definitions and monotonicity. -/
namespace Go.Nm

/-- pure values: no reference into memory that may still change -/
inductive PV where
  | b (x : Bool)
  | i (k : IntKind) (n : Int)
  | s (x : List UInt8)
  | np | nm | nfn
  | fp (cells : List PV)
  | fz (elems : List (List PV)) (cap : Option Nat)
  | fn (f : FuncId) (caps : List PV)
  | agg (cells : List PV)
  | tup (vs : List PV)

/-- values: pure ones, and references by name -/
inductive SV where
  | u (x : PV)
  | p (n off : Nat)
  | rp (n sz i off : Nat)
  | sl (n sz lo hi : Nat)
  | bm (f : FuncId) (first : List SV)
  | h (n : Nat)
  | fn (f : FuncId) (caps : List SV)
  | agg (cells : List SV)
  | tup (vs : List SV)
  | gd (k : List (Nat × Bool)) (c : Bool) (x : SV)
  | j

inductive SObj where
  | cells (vs : List SV)
  | row (e : TypeId) (sz : Nat) (els : List (List PV))
  | buf (e : TypeId) (sz : Nat) (es : List (Option (List PV)))
  | map (es : List (PV × PV))
  | iter (m : Nat) (es left : List (PV × PV)) (cur : Option (PV × PV))
  | dead
  | unborn

abbrev Fz := Nat → Option Obj

def Fz.cell (Φ : Fz) (a : Addr) : Option Value :=
  match Φ a.block with
  | some (.cells c _ _) => if a.spot.isSome then none else c[a.off]?
  | _ => none

def Fz.le (Φ Φ' : Fz) : Prop := ∀ b o, Φ b = some o → Φ' b = some o

theorem Fz.le_refl (Φ : Fz) : Φ.le Φ := fun _ _ h => h
theorem Fz.le_trans {a b c : Fz} (h : a.le b) (k : b.le c) : a.le c := fun x o hx => k x o (h x o hx)

theorem Fz.cell_mono {Φ Φ' : Fz} (h : Φ.le Φ') {a : Addr} {v : Value} (hv : Φ.cell a = some v) : Φ'.cell a = some v := by
  unfold Fz.cell at hv ⊢
  cases hb : Φ a.block with
  | none => simp [hb] at hv
  | some o => rw [h _ _ hb]; rw [hb] at hv; exact hv

inductive VP (Φ : Fz) : PV → Value → Prop
  | b (x : Bool) : VP Φ (.b x) (.bool x)
  | i (k : IntKind) (n : Int) : VP Φ (.i k n) (.int k n)
  | s (l : List UInt8) : VP Φ (.s l) (.string ⟨l.toArray⟩)
  | np : VP Φ .np (.pointer none)
  | nm : VP Φ .nm (.map none)
  | nfn : VP Φ .nfn .nilFunc
  | fp (cells : List PV) (a : Addr) (f : Nat → Value) (h1 : ∀ (j : Nat) x, cells[j]? = some x → Φ.cell (a.add j) = some (f j))
      (h2 : ∀ (j : Nat) x, cells[j]? = some x → VP Φ x (f j)) : VP Φ (.fp cells) (.pointer (some a))
  | fz (sz : Nat) (elems : List (List PV)) (c : Option Nat) (a : Option Addr) (cap : Nat) (f : Nat → Nat → Value)
      (hsz : ∀ e ∈ elems, e.length = sz) (hl : elems.length ≤ cap) (hm : cap ≤ maxLen) (hc : ∀ k, c = some k → k = cap) (ha : 0 < elems.length → a.isSome = true)
      (h1 : ∀ (i : Nat) e (j : Nat) x ad, elems[i]? = some e → e[j]? = some x → a = some ad → Φ.cell (ad.add (i * sz + j)) = some (f i j))
      (h2 : ∀ (i : Nat) e (j : Nat) x, elems[i]? = some e → e[j]? = some x → VP Φ x (f i j)) : VP Φ (.fz elems c) (.slice a elems.length cap)
  | fn (f : FuncId) (caps : List PV) (vs : List Value) (hl : vs.length = caps.length)
      (h : ∀ (j : Nat) x (v : Value), caps[j]? = some x → vs[j]? = some v → VP Φ x v) : VP Φ (.fn f caps) (.func (.func f) #[] vs.toArray)
  | agg (cs : List PV) (vs : List Value) (hl : vs.length = cs.length)
      (h : ∀ (j : Nat) x (v : Value), cs[j]? = some x → vs[j]? = some v → VP Φ x v) : VP Φ (.agg cs) (.agg vs.toArray)
  | tup (cs : List PV) (vs : List Value) (hl : vs.length = cs.length)
      (h : ∀ (j : Nat) x (v : Value), cs[j]? = some x → vs[j]? = some v → VP Φ x v) : VP Φ (.tup cs) (.tuple vs.toArray)

theorem VP.mono {Φ Φ' : Fz} (hle : Φ.le Φ') {x : PV} {v : Value} (h : VP Φ x v) : VP Φ' x v := by
  induction h with
  | b x => exact .b x
  | i k n => exact .i k n
  | s l => exact .s l
  | np => exact .np
  | nm => exact .nm
  | nfn => exact .nfn
  | fp cells a f h1 _ ih => exact .fp cells a f (fun j x hj => Fz.cell_mono hle (h1 j x hj)) ih
  | fz sz elems c a cap f hsz hl hm hc ha h1 _ ih =>
    exact .fz sz elems c a cap f hsz hl hm hc ha (fun i e j x ad hi hj had => Fz.cell_mono hle (h1 i e j x ad hi hj had)) ih
  | fn f caps vs hl _ ih => exact .fn f caps vs hl ih
  | agg cs vs hl _ ih => exact .agg cs vs hl ih
  | tup cs vs hl _ ih => exact .tup cs vs hl ih

def isRef : Value → Bool
  | .pointer _ | .map _ | .slice _ _ _ => true
  | _ => false

inductive V (β : List Value) (Φ : Fz) : SV → Value → Prop
  | u (x : PV) (v : Value) (h : VP Φ x v) : V β Φ (.u x) v
  | p (n off : Nat) (a : Addr) (h : β[n]? = some (.pointer (some a))) : V β Φ (.p n off) (.pointer (some (a.add off)))
  | rp (n sz i off : Nat) (a : Addr) (l c : Nat) (h : β[n]? = some (.slice (some a) l c)) : V β Φ (.rp n sz i off) (.pointer (some (a.add (i * sz + off))))
  | sl (n sz lo hi : Nat) (a a' : Addr) (l c : Nat) (h : β[n]? = some (.slice (some a) l c)) (h1 : lo ≤ hi) (h2 : hi ≤ c) (ha : lo < c → a' = a.add (lo * sz)) : V β Φ (.sl n sz lo hi) (.slice (some a') (hi - lo) (c - lo))
  | h (n : Nat) (v : Value) (h : β[n]? = some v) (hr : isRef v = true) : V β Φ (.h n) v
  | fn (f : FuncId) (caps : List SV) (vs : List Value) (hl : vs.length = caps.length)
      (h : ∀ (j : Nat) x (v : Value), caps[j]? = some x → vs[j]? = some v → V β Φ x v) : V β Φ (.fn f caps) (.func (.func f) #[] vs.toArray)
  | bm (f : FuncId) (first : List SV) (vs : List Value) (hl : vs.length = first.length)
      (h : ∀ (j : Nat) x (v : Value), first[j]? = some x → vs[j]? = some v → V β Φ x v) : V β Φ (.bm f first) (.func (.func f) vs.toArray #[])
  | agg (cs : List SV) (vs : List Value) (hl : vs.length = cs.length)
      (h : ∀ (j : Nat) x (v : Value), cs[j]? = some x → vs[j]? = some v → V β Φ x v) : V β Φ (.agg cs) (.agg vs.toArray)
  | tup (cs : List SV) (vs : List Value) (hl : vs.length = cs.length)
      (h : ∀ (j : Nat) x (v : Value), cs[j]? = some x → vs[j]? = some v → V β Φ x v) : V β Φ (.tup cs) (.tuple vs.toArray)
  | gd (k : List (Nat × Bool)) (c : Bool) (x : SV) (v : Value) (h : c = true → V β Φ x v) (h0 : c = false → v = undef) : V β Φ (.gd k c x) v
  | j (v : Value) : V β Φ .j v

/-- references stay what they are -/
def BExt (β β' : List Value) : Prop := ∀ (n : Nat) (v : Value), β[n]? = some v → isRef v = true → β'[n]? = some v

theorem BExt.refl (β : List Value) : BExt β β := fun _ _ h _ => h
theorem BExt.trans {a b c : List Value} (h : BExt a b) (k : BExt b c) : BExt a c := fun n v hn hr => k n v (h n v hn hr) hr
theorem BExt.append (β l : List Value) : BExt β (β ++ l) := fun n v hn _ => by
  have hlt : n < β.length := (List.getElem?_eq_some_iff.1 hn).1
  rw [List.getElem?_append_left hlt]; exact hn

theorem V.mono {β β' : List Value} {Φ Φ' : Fz} (hb : BExt β β') (hle : Φ.le Φ') {x : SV} {v : Value} (h : V β Φ x v) : V β' Φ' x v := by
  induction h with
  | u x v h => exact .u x v (h.mono hle)
  | p n off a h => exact .p n off a (hb _ _ h rfl)
  | rp n sz i off a l c h => exact .rp n sz i off a l c (hb _ _ h rfl)
  | sl n sz lo hi a a' l c h h1 h2 ha => exact .sl n sz lo hi a a' l c (hb _ _ h rfl) h1 h2 ha
  | h n v h hr => exact .h n v (hb _ _ h hr) hr
  | fn f caps vs hl _ ih => exact .fn f caps vs hl ih
  | bm f caps vs hl _ ih => exact .bm f caps vs hl ih
  | agg cs vs hl _ ih => exact .agg cs vs hl ih
  | tup cs vs hl _ ih => exact .tup cs vs hl ih
  | gd k c x v _ h0 ih => exact .gd k c x v ih h0
  | j v => exact .j v

/-! renaming -/
def SV.mv (ρ : Nat → Option Nat) : SV → SV
  | .u x => .u x
  | .p n off => match ρ n with | some m => .p m off | none => .j
  | .rp n sz i off => match ρ n with | some m => .rp m sz i off | none => .j
  | .sl n sz lo hi => match ρ n with | some m => .sl m sz lo hi | none => .j
  | .h n => match ρ n with | some m => .h m | none => .j
  | .fn f caps => .fn f (caps.map (SV.mv ρ))
  | .bm f caps => .bm f (caps.map (SV.mv ρ))
  | .agg cs => .agg (cs.map (SV.mv ρ))
  | .tup cs => .tup (cs.map (SV.mv ρ))
  | .gd k c x => .gd k c (SV.mv ρ x)
  | .j => .j

theorem V.mv {β β' : List Value} {Φ : Fz} {ρ : Nat → Option Nat} (hρ : ∀ (n m : Nat) (v : Value), ρ n = some m → β[n]? = some v → isRef v = true → β'[m]? = some v) {x : SV} {v : Value} (h : V β Φ x v) :
    V β' Φ (x.mv ρ) v := by
  induction h with
  | u x v h => rw [SV.mv]; exact .u x v h
  | p n off a h =>
    rw [SV.mv]
    cases hn : ρ n with
    | some m => exact .p m off a (hρ n m _ hn h rfl)
    | none => exact .j _
  | rp n sz i off a l c h =>
    rw [SV.mv]
    cases hn : ρ n with
    | some m => exact .rp m sz i off a l c (hρ n m _ hn h rfl)
    | none => exact .j _
  | sl n sz lo hi a a' l c h h1 h2 ha =>
    rw [SV.mv]
    cases hn : ρ n with
    | some m => exact .sl m sz lo hi a a' l c (hρ n m _ hn h rfl) h1 h2 ha
    | none => exact .j _
  | h n v h hr =>
    rw [SV.mv]
    cases hn : ρ n with
    | some m => exact .h m v (hρ n m _ hn h hr) hr
    | none => exact .j _
  | fn f caps vs hl _ ih =>
    rw [SV.mv]
    refine .fn f _ vs (by simpa using hl) fun j x v hx hv => ?_
    rw [List.getElem?_map] at hx
    obtain ⟨y, hy, rfl⟩ := Option.map_eq_some_iff.1 hx
    exact ih j y v hy hv
  | bm f caps vs hl _ ih =>
    rw [SV.mv]
    refine .bm f _ vs (by simpa using hl) fun j x v hx hv => ?_
    rw [List.getElem?_map] at hx
    obtain ⟨y, hy, rfl⟩ := Option.map_eq_some_iff.1 hx
    exact ih j y v hy hv
  | agg cs vs hl _ ih =>
    rw [SV.mv]
    refine .agg _ vs (by simpa using hl) fun j x v hx hv => ?_
    rw [List.getElem?_map] at hx
    obtain ⟨y, hy, rfl⟩ := Option.map_eq_some_iff.1 hx
    exact ih j y v hy hv
  | tup cs vs hl _ ih =>
    rw [SV.mv]
    refine .tup _ vs (by simpa using hl) fun j x v hx hv => ?_
    rw [List.getElem?_map] at hx
    obtain ⟨y, hy, rfl⟩ := Option.map_eq_some_iff.1 hx
    exact ih j y v hy hv
  | gd k c x v _ h0 ih => rw [SV.mv]; exact .gd k c _ v ih h0
  | j v => rw [SV.mv]; exact .j v

def SObj.mv (ρ : Nat → Option Nat) : SObj → SObj
  | .cells vs => .cells (vs.map (SV.mv ρ))
  | .row e sz els => .row e sz els
  | .buf e sz es => .buf e sz es
  | .map es => .map es
  | .iter m es left cur => match ρ m with | some k => .iter k es left cur | none => .dead
  | .dead => .dead
  | .unborn => .dead

/-! objects in memory -/
def Stamps (es : Array MapEntry) (ck : Nat) : Prop := (∀ e ∈ es.toList, e.born < ck) ∧ (es.toList.map MapEntry.born).Nodup

/-- entries, one by one -/
def EntsR (Φ : Fz) (es : List (PV × PV)) (es' : List MapEntry) : Prop := es'.length = es.length ∧ ∀ (i : Nat) k x e, es[i]? = some (k, x) → es'[i]? = some e → VP Φ k e.key ∧ VP Φ x e.val

theorem EntsR.mono {Φ Φ' : Fz} (hle : Φ.le Φ') {es : List (PV × PV)} {es' : List MapEntry} (h : EntsR Φ es es') : EntsR Φ' es es' :=
  ⟨h.1, fun i k x e h1 h2 => ⟨(h.2 i k x e h1 h2).1.mono hle, (h.2 i k x e h1 h2).2.mono hle⟩⟩

/-- what an iteration has not handed out -/
def notSeen (seen : Array Nat) (l : List MapEntry) : List MapEntry := l.filter fun e => !seen.contains e.born

def O (β : List Value) (Φ : Fz) (heap : Array Obj) (ω : Nat → Nat) (n : Nat) : SObj → Value → Prop
  | .cells vs, v => ∃ b cs T, v = .pointer (some ⟨b, 0, none⟩) ∧ ω b = n + 2 ∧ heap[b]? = some (.cells cs T (0, 0)) ∧ cs.size = vs.length ∧
      ∀ (j : Nat) x u, vs[j]? = some x → cs[j]? = some u → V β Φ x u
  | .row T sz els, v => (∃ a, v = .slice a 0 0 ∧ els = []) ∨
      ∃ b cap cs, v = .slice (some ⟨b, 0, none⟩) els.length cap ∧ ω b = n + 2 ∧ heap[b]? = some (.cells cs T (0, 0)) ∧ cs.size = cap * sz ∧ els.length ≤ cap ∧ cap ≤ maxLen ∧
        (∀ e ∈ els, e.length = sz) ∧ ∀ (i : Nat) e (j : Nat) x u, els[i]? = some e → e[j]? = some x → cs[i * sz + j]? = some u → VP Φ x u
  | .buf T sz es, v => ∃ b l cs, v = .slice (some ⟨b, 0, none⟩) l es.length ∧ ω b = n + 2 ∧ heap[b]? = some (.cells cs T (0, 0)) ∧ cs.size = es.length * sz ∧ l ≤ es.length ∧ es.length ≤ maxLen ∧
        (∀ e, some e ∈ es → e.length = sz) ∧ ∀ (i : Nat) e (j : Nat) x u, es[i]? = some (some e) → e[j]? = some x → cs[i * sz + j]? = some u → VP Φ x u
  | .map es, v => ∃ r es' ck, v = .map (some r) ∧ ω r = n + 2 ∧ heap[r]? = some (.map es' ck) ∧ es'.size = es.length ∧ Stamps es' ck ∧
      ∀ (i : Nat) k x e, es[i]? = some (k, x) → es'[i]? = some e → VP Φ k e.key ∧ VP Φ x e.val
  | .iter m es left cur, v => ∃ r bm es' ck seen, v = .pointer (some ⟨r, 0, none⟩) ∧ ω r = n + 2 ∧ heap[r]? = some (.mapIter (some bm) ck seen ck) ∧ β[m]? = some (.map (some bm)) ∧ ω bm = n + 2 ∧ heap[bm]? = some (.map es' ck) ∧ Stamps es' ck ∧
      EntsR Φ es es'.toList ∧ EntsR Φ left (notSeen seen es'.toList) ∧ ∀ k x, cur = some (k, x) → ∃ (seen0 : Array Nat) (e : MapEntry), seen = seen0.push e.born ∧ e ∈ es'.toList ∧ VP Φ k e.key ∧ VP Φ x e.val
  | .dead, _ => True
  | .unborn, v => v = .bool false

theorem O.mono {β β' : List Value} {Φ Φ' : Fz} {heap heap' : Array Obj} {ω ω' : Nat → Nat} {n : Nat} {ob : SObj} {v : Value} (hb : BExt β β') (hle : Φ.le Φ')
    (hh : ∀ b, ω b = n + 2 → ω' b = n + 2 ∧ heap'[b]? = heap[b]?) (h : O β Φ heap ω n ob v) : O β' Φ' heap' ω' n ob v := by
  cases ob with
  | cells vs =>
    obtain ⟨b, cs, T, hv, hw, hc, hs, hj⟩ := h
    exact ⟨b, cs, T, hv, (hh b hw).1, (hh b hw).2.trans hc, hs, fun j x u hx hu => (hj j x u hx hu).mono hb hle⟩
  | row T sz els =>
    rcases h with h | ⟨b, cap, cs, hv, hw, hc, hs, hl, hm, he, hj⟩
    · exact .inl h
    · exact .inr ⟨b, cap, cs, hv, (hh b hw).1, (hh b hw).2.trans hc, hs, hl, hm, he, fun i e j x u h1 h2 h3 => (hj i e j x u h1 h2 h3).mono hle⟩
  | buf T sz es =>
    obtain ⟨b, l, cs, hv, hw, hc, hs, hl, hm, he, hj⟩ := h
    exact ⟨b, l, cs, hv, (hh b hw).1, (hh b hw).2.trans hc, hs, hl, hm, he, fun i e j x u h1 h2 h3 => (hj i e j x u h1 h2 h3).mono hle⟩
  | map es =>
    obtain ⟨r, es', ck, hv, hw, hc, hs, hst, hj⟩ := h
    exact ⟨r, es', ck, hv, (hh r hw).1, (hh r hw).2.trans hc, hs, hst, fun i k x e h1 h2 => ⟨(hj i k x e h1 h2).1.mono hle, (hj i k x e h1 h2).2.mono hle⟩⟩
  | iter m es left cur =>
    obtain ⟨r, bm, es', ck, seen, hv, hw, hc, hm, hwm, hcm, hst, h1, h2, h3⟩ := h
    exact ⟨r, bm, es', ck, seen, hv, (hh r hw).1, (hh r hw).2.trans hc, hb _ _ hm rfl, (hh bm hwm).1, (hh bm hwm).2.trans hcm, hst, h1.mono hle, h2.mono hle, fun k x hk =>
      let ⟨s0, e, a, b, c, d⟩ := h3 k x hk; ⟨s0, e, a, b, c.mono hle, d.mono hle⟩⟩
  | dead => trivial
  | unborn => exact h

/-! ### package-level variables that nobody writes -/
def Glob : Nat → Option (List PV) := fun g => if g = 0 then some [.i .u64 0, .i .u64 8, .i .u64 16, .i .u64 24, .i .u64 32, .i .u64 40, .i .u64 48, .i .u64 56, .i .u64 64] else none

def GOK (Φ : Fz) : Prop := ∀ (g : Nat) cs, Glob g = some cs → ∃ f : Nat → Value, ∀ (j : Nat) x, cs[j]? = some x → Φ.cell ⟨g, j, none⟩ = some (f j) ∧ VP Φ x (f j)

theorem GOK.mono {Φ Φ' : Fz} (h : GOK Φ) (hle : Φ.le Φ') : GOK Φ' := fun g cs hg => by
  obtain ⟨f, hf⟩ := h g cs hg
  exact ⟨f, fun j x hx => ⟨Fz.cell_mono hle (hf j x hx).1, (hf j x hx).2.mono hle⟩⟩

structure Rep (w0 : World) (ω0 : Nat → Nat) (β : List Value) (σ : List SObj) (Φ : Fz) (ω : Nat → Nat) (w : World) : Prop where
  os : w.os = w0.os
  tape : w.tape = w0.tape
  output : w.output = w0.output
  size : w0.heap.size ≤ w.heap.size
  frame : ∀ b, b < w0.heap.size → ω0 b = 0 → w.heap[b]? = w0.heap[b]? ∧ ω b = 0
  fz : ∀ b o, Φ b = some o → ω b = 1 ∧ w.heap[b]? = some o
  lt : ∀ b, ω b ≠ 0 → b < w.heap.size
  len : β.length = σ.length
  obj : ∀ (n : Nat) ob v, σ[n]? = some ob → β[n]? = some v → O β Φ w.heap ω n ob v
  gl : GOK Φ

section
variable {w0 : World} {ω0 : Nat → Nat} {β : List Value} {σ : List SObj} {Φ : Fz} {ω : Nat → Nat} {w : World}

theorem Rep.at_ (h : Rep w0 ω0 β σ Φ ω w) {n : Nat} {ob : SObj} (hn : σ[n]? = some ob) : ∃ v, β[n]? = some v ∧ O β Φ w.heap ω n ob v := by
  have hlt : n < β.length := by rw [h.len]; exact (List.getElem?_eq_some_iff.1 hn).1
  exact ⟨_, List.getElem?_eq_getElem hlt, h.obj n ob _ hn (List.getElem?_eq_getElem hlt)⟩

/-- only the draws' count has moved -/
theorem Rep.of_heap (h : Rep w0 ω0 β σ Φ ω w) {w' : World} (hh : w'.heap = w.heap) (ho : w'.os = w.os) (ht : w'.tape = w.tape) (hu : w'.output = w.output) : Rep w0 ω0 β σ Φ ω w' :=
  ⟨ho.trans h.os, ht.trans h.tape, hu.trans h.output, by rw [hh]; exact h.size, by rw [hh]; exact h.frame, by rw [hh]; exact h.fz, by rw [hh]; exact h.lt, h.len, by rw [hh]; exact h.obj, h.gl⟩

/-- a name's object turned, in its own blocks, or a new block -/
theorem Rep.upd (h : Rep w0 ω0 β σ Φ ω w) {n : Nat} {ob' : SObj} {v' : Value} {w' : World} {ω' : Nat → Nat} {Φ' : Fz} (hn : n < σ.length)
    (ho : w'.os = w.os) (ht : w'.tape = w.tape) (hu : w'.output = w.output) (hs : w.heap.size ≤ w'.heap.size)
    (hβ : ∀ v, β[n]? = some v → isRef v = true → v' = v)
    (others : ∀ b, b < w.heap.size → ω b ≠ n + 2 → w'.heap[b]? = w.heap[b]? ∧ ω' b = ω b)
    (lt' : ∀ b, ω' b ≠ 0 → b < w'.heap.size)
    (hle : Φ.le Φ') (hfz : ∀ b o, Φ' b = some o → ω' b = 1 ∧ w'.heap[b]? = some o)
    (hob : O (β.set n v') Φ' w'.heap ω' n ob' v') : Rep w0 ω0 (β.set n v') (σ.set n ob') Φ' ω' w' := by
  have hext : BExt β (β.set n v') := by
    intro m v hm hr
    by_cases e : m = n
    · subst e
      have hlt : m < β.length := (List.getElem?_eq_some_iff.1 hm).1
      rw [List.getElem?_set_self hlt, hβ v hm hr]
    · rw [List.getElem?_set_ne (fun h => e h.symm)]; exact hm
  refine ⟨ho.trans h.os, ht.trans h.tape, hu.trans h.output, Nat.le_trans h.size hs, fun b hb h0 => ?_, hfz, lt', by simp [h.len], fun m ob v hm hv => ?_, h.gl.mono hle⟩
  · obtain ⟨h1, h2⟩ := h.frame b hb h0
    have := others b (Nat.lt_of_lt_of_le hb h.size) (by rw [h2]; omega)
    exact ⟨this.1.trans h1, this.2.trans h2⟩
  · by_cases e : m = n
    · subst e
      rw [List.getElem?_set_self hn] at hm
      rw [List.getElem?_set_self (by rw [h.len]; exact hn)] at hv
      cases hm; cases hv
      exact hob
    · rw [List.getElem?_set_ne (fun h => e h.symm)] at hm hv
      refine (h.obj m ob v hm hv).mono hext hle fun b hb => ?_
      have hlt := h.lt b (by rw [hb]; omega)
      have := others b hlt (by rw [hb]; omega)
      exact ⟨this.2.trans hb, this.1⟩

/-- a name kept free -/
theorem Rep.reserve (h : Rep w0 ω0 β σ Φ ω w) (k : Nat) : Rep w0 ω0 (β ++ List.replicate k (.bool false)) (σ ++ List.replicate k .unborn) Φ ω w := by
  refine ⟨h.os, h.tape, h.output, h.size, h.frame, h.fz, h.lt, by simp [h.len], fun n ob v hn hv => ?_, h.gl⟩
  by_cases hlt : n < σ.length
  · rw [List.getElem?_append_left hlt] at hn
    rw [List.getElem?_append_left (by rw [h.len]; exact hlt)] at hv
    exact (h.obj n ob v hn hv).mono (BExt.append _ _) (Fz.le_refl _) fun b hb => ⟨hb, rfl⟩
  · rw [List.getElem?_append_right (by omega)] at hn
    rw [List.getElem?_append_right (by rw [h.len]; omega)] at hv
    have h1 := List.eq_of_mem_replicate (List.mem_of_getElem? hn)
    have h2 := List.eq_of_mem_replicate (List.mem_of_getElem? hv)
    subst h1 h2
    rfl
end


/-! ### the type table -/
def pv1 : Value → Option PV
  | .bool x => some (.b x)
  | .int k n => some (.i k n)
  | .string x => some (.s x.data.toList)
  | .pointer none => some .np
  | .map none => some .nm
  | .nilFunc => some .nfn
  | .slice none 0 0 => some (.fz [] (some 0))
  | _ => none

def pvs : List Value → Option (List PV)
  | [] => some []
  | v :: r => match pv1 v, pvs r with
    | some x, some l => some (x :: l)
    | _, _ => none

inductive TK where
  | bool | int (k : IntKind) | str | ptr (e : TypeId) | slice (e : TypeId) | arr (n : Nat) (e : TypeId) | map (k e : TypeId) | struct (fs : List (Nat × TypeId)) | func | other

def tkOf : TypeDesc → TK
  | .bool => .bool
  | .int k => .int k
  | .string => .str
  | .pointer e => .ptr e
  | .slice e => .slice e
  | .array n e => .arr n e
  | .map k e => .map k e
  | .struct fs => .struct (fs.toList.map fun f => (f.offset, f.type))
  | .func _ _ _ => .func
  | _ => .other

structure TI where
  size : Nat
  bytes : Nat
  zero : List PV
  zagg : Bool
  kind : TK

def isAggV : Value → Bool
  | .agg _ => true
  | _ => false

def tiOf (P : Program) (t : TypeId) : Option TI :=
  match P.info? t, P.underlying t with
  | some i, some d =>
    match i.zero with
    | some z => match pvs z.cells.toList with
      | some zc => some ⟨i.size, i.bytes, zc, isAggV z, tkOf d⟩
      | none => none
    | none => none
  | _, _ => none

def TK.agg : TK → Bool
  | .arr _ _ | .struct _ => true
  | _ => false

/-! ### environments -/
abbrev Env := List (Nat × SV)
def Env.get : Env → Nat → SV
  | [], _ => .j
  | (d, x) :: r, t => if d = t then x else Env.get r t
def Env.put (e : Env) (d : Option Nat) (x : SV) : Env := match d with | some d => (d, x) :: e | none => e

def cst (v : Value) : SV := match pv1 v with | some x => .u x | none => .j

def opnd (e : Env) : Operand → SV
  | .tmp t => e.get t
  | .const v => cst v
  | .func f => .u (.fn f [])
  | .global g => match Glob g with
    | some cs => .u (.fp cs)
    | none => .j

def EnvOK (β : List Value) (Φ : Fz) (e : Env) (tmps : Array Value) : Prop := ∀ t, V β Φ (e.get t) (tmps.getD t undef)

/-! ### small functions on values -/
def SV.cells : SV → List SV
  | .agg cs => cs
  | .u (.agg cs) => cs.map .u
  | x => [x]

/-- the value of one cell -/
def SV.one : SV → Bool
  | .u (.agg _) | .u (.tup _) | .agg _ | .tup _ | .gd _ _ _ | .j => false
  | _ => true

def SV.pure? : SV → Option PV
  | .u x => some x
  | _ => none

def pures : List SV → Option (List PV)
  | [] => some []
  | x :: r => match x.pure?, pures r with
    | some y, some l => some (y :: l)
    | _, _ => none

def setAll (σ : List SObj) : List (Nat × SObj) → List SObj
  | [] => σ
  | (n, ob) :: r => setAll (σ.set n ob) r

inductive Ev where
  | bad
  | ok (ob : Prop) (rd : List (Nat × SObj)) (r : SV) (wr : List (Nat × SObj))

/-- a value read out of cells -/
def rdCells (ti : TI) (cs : List SV) (off : Nat) : SV :=
  if ti.kind.agg then .agg ((cs.drop off).take ti.size) else cs.getD off .j

def wrCells (cs : List SV) (off : Nat) (x : List SV) : List SV := cs.take off ++ x ++ cs.drop (off + x.length)

def evLoad (σ : Nat → SObj) (ti : TI) : SV → Ev
  | .p n off => match σ n with
    | .cells vs => .ok (off + ti.size ≤ vs.length) [(n, .cells vs)] (rdCells ti vs off) []
    | _ => .bad
  | .rp n sz i off => match σ n with
    | .row T s els => .ok (s = sz ∧ i < els.length ∧ off + ti.size ≤ sz) [(n, .row T s els)] (rdCells ti ((els.getD i []).map .u) off) []
    | _ => .bad
  | .u (.fp cs) => .ok (ti.size ≤ cs.length) [] (rdCells ti (cs.map .u) 0) []
  | _ => .bad

def evStore (σ : Nat → SObj) (ti : TI) (a x : SV) : Ev :=
  match a with
  | .p n off => match σ n with
    | .cells vs => .ok (off + ti.size ≤ vs.length ∧ x.cells.length = ti.size ∧ x.cells.all SV.one = true) [(n, .cells vs)] .j [(n, .cells (wrCells vs off x.cells))]
    | _ => .bad
  | .rp n sz i off => match σ n, pures x.cells with
    | .row T s els, some l => .ok (s = sz ∧ i < els.length ∧ off + ti.size ≤ sz ∧ l.length = ti.size ∧ x.cells.all SV.one = true) [(n, .row T s els)] .j
        [(n, .row T s (els.set i ((els.getD i []).take off ++ l ++ (els.getD i []).drop (off + l.length))))]
    | _, _ => .bad
  | _ => .bad


def OpR (P : Program) (o : Oper) (g : Operand → SV) (rd : List (Nat × SObj)) (r : SV) (wr : List (Nat × SObj)) : Prop :=
  ∀ (w0 : World) (ω0 : Nat → Nat) (β : List Value) (Φ : Fz) (ω : Nat → Nat) (σ : List SObj) (w : World) (ρ : Operand → Value),
    Rep w0 ω0 β σ Φ ω w → (∀ x, V β Φ (g x) (ρ x)) → (∀ n ob, (n, ob) ∈ rd → σ[n]? = some ob) →
    ∃ nx v w' β' Φ' ω', (execOp ρ o).run P w = .ok nx w' ∧ (nx = .value v ∨ nx = .skip ∧ v = undef) ∧ BExt β β' ∧ β'.length = β.length ∧ Φ.le Φ' ∧
      V β' Φ' r v ∧ Rep w0 ω0 β' (setAll σ wr) Φ' ω' w'

theorem OpR.pure {P : Program} {o : Oper} {g : Operand → SV} {r : SV}
    (h : ∀ (β : List Value) (Φ : Fz) (ρ : Operand → Value) (w : World), (∀ x, V β Φ (g x) (ρ x)) → ∃ v, (execOp ρ o).run P w = .ok (.value v) w ∧ V β Φ r v) : OpR P o g [] r [] := by
  intro w0 ω0 β Φ ω σ w ρ hR hg _
  obtain ⟨v, hr, hv⟩ := h β Φ ρ w hg
  exact ⟨_, v, w, β, Φ, ω, hr, .inl rfl, BExt.refl _, rfl, Fz.le_refl _, hv, hR⟩

theorem OpR.read {P : Program} {o : Oper} {g : Operand → SV} {rd : List (Nat × SObj)} {r : SV}
    (h : ∀ (w0 : World) (ω0 : Nat → Nat) (β : List Value) (Φ : Fz) (ω : Nat → Nat) (σ : List SObj) (w : World) (ρ : Operand → Value),
      Rep w0 ω0 β σ Φ ω w → (∀ x, V β Φ (g x) (ρ x)) → (∀ n ob, (n, ob) ∈ rd → σ[n]? = some ob) → ∃ v, (execOp ρ o).run P w = .ok (.value v) w ∧ V β Φ r v) : OpR P o g rd r [] := by
  intro w0 ω0 β Φ ω σ w ρ hR hg hrd
  obtain ⟨v, hr, hv⟩ := h w0 ω0 β Φ ω σ w ρ hR hg hrd
  exact ⟨_, v, w, β, Φ, ω, hr, .inl rfl, BExt.refl _, rfl, Fz.le_refl _, hv, hR⟩

/-! inversions -/
section
variable {β : List Value} {Φ : Fz} {v : Value}
theorem V.inv_i {k : IntKind} {n : Int} (h : V β Φ (.u (.i k n)) v) : v = .int k n := by cases h with | u _ _ h => cases h; rfl
theorem V.inv_b {x : Bool} (h : V β Φ (.u (.b x)) v) : v = .bool x := by cases h with | u _ _ h => cases h; rfl
theorem V.inv_s {x : List UInt8} (h : V β Φ (.u (.s x)) v) : v = .string ⟨x.toArray⟩ := by cases h with | u _ _ h => cases h; rfl
theorem V.inv_np (h : V β Φ (.u .np) v) : v = .pointer none := by cases h with | u _ _ h => cases h; rfl
theorem V.inv_nm (h : V β Φ (.u .nm) v) : v = .map none := by cases h with | u _ _ h => cases h; rfl
theorem V.inv_fp {cs : List PV} (h : V β Φ (.u (.fp cs)) v) : ∃ (a : Addr) (f : Nat → Value), v = .pointer (some a) ∧ (∀ (j : Nat) x, cs[j]? = some x → Φ.cell (a.add j) = some (f j)) ∧ ∀ (j : Nat) x, cs[j]? = some x → VP Φ x (f j) := by
  cases h with | u _ _ h => cases h with | fp _ a f h1 h2 => exact ⟨a, f, rfl, h1, h2⟩
theorem V.inv_fz {els : List (List PV)} {c : Option Nat} (h : V β Φ (.u (.fz els c)) v) : ∃ (sz : Nat) (a : Option Addr) (cap : Nat) (f : Nat → Nat → Value), v = .slice a els.length cap ∧ (∀ e ∈ els, e.length = sz) ∧ els.length ≤ cap ∧ cap ≤ maxLen ∧
    (∀ k, c = some k → k = cap) ∧ (0 < els.length → a.isSome = true) ∧ (∀ (i : Nat) e (j : Nat) x ad, els[i]? = some e → e[j]? = some x → a = some ad → Φ.cell (ad.add (i * sz + j)) = some (f i j)) ∧
    ∀ (i : Nat) e (j : Nat) x, els[i]? = some e → e[j]? = some x → VP Φ x (f i j) := by
  cases h with | u _ _ h => cases h with | fz sz _ _ a cap f hsz hl hm hc ha h1 h2 => exact ⟨sz, a, cap, f, rfl, hsz, hl, hm, hc, ha, h1, h2⟩
theorem V.inv_p {n off : Nat} (h : V β Φ (.p n off) v) : ∃ a, β[n]? = some (.pointer (some a)) ∧ v = .pointer (some (a.add off)) := by cases h with | p _ _ a h => exact ⟨a, h, rfl⟩
theorem V.inv_rp {n sz i off : Nat} (h : V β Φ (.rp n sz i off) v) : ∃ a l c, β[n]? = some (.slice (some a) l c) ∧ v = .pointer (some (a.add (i * sz + off))) := by cases h with | rp _ _ _ _ a l c h => exact ⟨a, l, c, h, rfl⟩
theorem V.inv_sl {n sz lo hi : Nat} (h : V β Φ (.sl n sz lo hi) v) : ∃ a a' l c, β[n]? = some (.slice (some a) l c) ∧ v = .slice (some a') (hi - lo) (c - lo) ∧ lo ≤ hi ∧ hi ≤ c ∧ (lo < c → a' = a.add (lo * sz)) := by cases h with | sl _ _ _ _ a a' l c h h1 h2 ha => exact ⟨a, a', l, c, h, rfl, h1, h2, ha⟩
theorem V.inv_h {n : Nat} (h : V β Φ (.h n) v) : β[n]? = some v ∧ isRef v = true := by cases h with | h _ _ h hr => exact ⟨h, hr⟩
theorem V.inv_agg {cs : List SV} (h : V β Φ (.agg cs) v) : ∃ vs : List Value, v = .agg vs.toArray ∧ vs.length = cs.length ∧ ∀ (j : Nat) x (u : Value), cs[j]? = some x → vs[j]? = some u → V β Φ x u := by
  cases h with | agg _ vs hl h => exact ⟨vs, rfl, hl, h⟩
theorem V.inv_uagg {cs : List PV} (h : V β Φ (.u (.agg cs)) v) : ∃ vs : List Value, v = .agg vs.toArray ∧ vs.length = cs.length ∧ ∀ (j : Nat) x (u : Value), cs[j]? = some x → vs[j]? = some u → VP Φ x u := by
  cases h with | u _ _ h => cases h with | agg _ vs hl h => exact ⟨vs, rfl, hl, h⟩
theorem V.inv_tup {cs : List SV} (h : V β Φ (.tup cs) v) : ∃ vs : List Value, v = .tuple vs.toArray ∧ vs.length = cs.length ∧ ∀ (j : Nat) x (u : Value), cs[j]? = some x → vs[j]? = some u → V β Φ x u := by
  cases h with | tup _ vs hl h => exact ⟨vs, rfl, hl, h⟩
theorem V.inv_fn {f : FuncId} {cs : List SV} (h : V β Φ (.fn f cs) v) : ∃ vs : List Value, v = .func (.func f) #[] vs.toArray ∧ vs.length = cs.length ∧ ∀ (j : Nat) x (u : Value), cs[j]? = some x → vs[j]? = some u → V β Φ x u := by
  cases h with | fn _ _ vs hl h => exact ⟨vs, rfl, hl, h⟩
theorem V.inv_bm {f : FuncId} {cs : List SV} (h : V β Φ (.bm f cs) v) : ∃ vs : List Value, v = .func (.func f) vs.toArray #[] ∧ vs.length = cs.length ∧ ∀ (j : Nat) x (u : Value), cs[j]? = some x → vs[j]? = some u → V β Φ x u := by
  cases h with | bm _ _ vs hl h => exact ⟨vs, rfl, hl, h⟩
theorem V.inv_ufn {f : FuncId} {cs : List PV} (h : V β Φ (.u (.fn f cs)) v) : ∃ vs : List Value, v = .func (.func f) #[] vs.toArray ∧ vs.length = cs.length ∧ ∀ (j : Nat) x (u : Value), cs[j]? = some x → vs[j]? = some u → VP Φ x u := by
  cases h with | u _ _ h => cases h with | fn _ _ vs hl h => exact ⟨vs, rfl, hl, h⟩

theorem V.inv_utup {cs : List PV} (h : V β Φ (.u (.tup cs)) v) : ∃ vs : List Value, v = .tuple vs.toArray ∧ vs.length = cs.length ∧ ∀ (j : Nat) x (u : Value), cs[j]? = some x → vs[j]? = some u → VP Φ x u := by
  cases h with | u _ _ h => cases h with | tup _ vs hl h => exact ⟨vs, rfl, hl, h⟩

theorem V.mk_i (k : IntKind) (n : Int) : V β Φ (.u (.i k n)) (.int k n) := .u _ _ (.i k n)
theorem V.mk_b (x : Bool) : V β Φ (.u (.b x)) (.bool x) := .u _ _ (.b x)
theorem V.mk_s (x : List UInt8) : V β Φ (.u (.s x)) (.string ⟨x.toArray⟩) := .u _ _ (.s x)

/-- the cells of a value -/
theorem V.cells {x : SV} {v : Value} (h : V β Φ x v) (hx : x.cells.all SV.one = true) : v.cells.size = x.cells.length ∧ (∀ (j : Nat) y u, x.cells[j]? = some y → v.cells[j]? = some u → V β Φ y u) ∧ ∀ u ∈ v.cells.toList, u.oneCell' = true := by
  have one : ∀ (y : SV) (u : Value), y.one = true → V β Φ y u → u.oneCell' = true := by
    intro y u hy hv
    cases hv with
    | u z _ hz => cases hz <;> first | rfl | (simp [SV.one] at hy)
    | p => rfl
    | rp => rfl
    | sl => rfl
    | h _ _ _ hr => cases u <;> first | rfl | (simp [isRef] at hr)
    | fn => rfl
    | bm => rfl
    | agg => simp [SV.one] at hy
    | tup => simp [SV.one] at hy
    | gd => simp [SV.one] at hy
    | j => simp [SV.one] at hy
  have single : ∀ (y : SV), x.cells = [y] → (v.cells = #[v]) → V β Φ y v → v.cells.size = x.cells.length ∧ (∀ (j : Nat) y u, x.cells[j]? = some y → v.cells[j]? = some u → V β Φ y u) ∧ ∀ u ∈ v.cells.toList, u.oneCell' = true := by
    intro y hy hvc hyv
    rw [hy, hvc]
    refine ⟨rfl, fun j z u hz hu => ?_, fun u hu => ?_⟩
    · cases j with
      | zero => simp at hz hu; subst hz hu; exact hyv
      | succ j => simp at hz
    · have : u = v := by simpa using hu
      subst this
      rw [hy] at hx
      exact one y u (by simpa using hx) hyv
  have many : ∀ (cs : List SV) (vs : List Value), x.cells = cs → v = .agg vs.toArray → vs.length = cs.length → (∀ (j : Nat) y (u : Value), cs[j]? = some y → vs[j]? = some u → V β Φ y u) →
      v.cells.size = x.cells.length ∧ (∀ (j : Nat) y u, x.cells[j]? = some y → v.cells[j]? = some u → V β Φ y u) ∧ ∀ u ∈ v.cells.toList, u.oneCell' = true := by
    intro cs vs hcs hv hl hall
    subst hv
    rw [hcs] at hx ⊢
    refine ⟨by simpa [Value.cells] using hl, fun j y u hy hu => hall j y u hy (by simpa [Value.cells] using hu), fun u hu => ?_⟩
    have hu' : u ∈ vs := by simpa [Value.cells] using hu
    obtain ⟨j, hj, rfl⟩ := List.getElem_of_mem hu'
    have hjc : j < cs.length := by omega
    have := List.all_eq_true.1 hx cs[j] (List.getElem_mem hjc)
    exact one _ _ this (hall j _ _ (List.getElem?_eq_getElem hjc) (List.getElem?_eq_getElem hj))
  cases h with
  | u z _ hz =>
    cases hz with
    | agg cs vs hl h =>
      refine many (cs.map .u) vs rfl rfl (by simpa using hl) fun j y u hy hu => ?_
      rw [List.getElem?_map] at hy
      obtain ⟨p, hp, rfl⟩ := Option.map_eq_some_iff.1 hy
      exact .u _ _ (h j p u hp hu)
    | tup cs vs hl h => simp [SV.cells, SV.one] at hx
    | b x => exact single _ rfl rfl (.u _ _ (.b x))
    | i k n => exact single _ rfl rfl (.u _ _ (.i k n))
    | s l => exact single _ rfl rfl (.u _ _ (.s l))
    | np => exact single _ rfl rfl (.u _ _ .np)
    | nm => exact single _ rfl rfl (.u _ _ .nm)
    | nfn => exact single _ rfl rfl (.u _ _ .nfn)
    | fp cs a f h1 h2 => exact single _ rfl rfl (.u _ _ (.fp cs a f h1 h2))
    | fz sz els c a cap f q1 q2 q3 q4 q5 q6 q7 => exact single _ rfl rfl (.u _ _ (.fz sz els c a cap f q1 q2 q3 q4 q5 q6 q7))
    | fn f cs vs hl h => exact single _ rfl rfl (.u _ _ (.fn f cs vs hl h))
  | p n off a h => exact single _ rfl rfl (.p n off a h)
  | rp n sz i off a l c h => exact single _ rfl rfl (.rp n sz i off a l c h)
  | sl n sz lo hi a a' l c h h1 h2 ha => exact single _ rfl rfl (.sl n sz lo hi a a' l c h h1 h2 ha)
  | h n v h hr =>
    refine single _ rfl ?_ (.h n v h hr)
    cases v <;> first | rfl | (simp [isRef] at hr)
  | fn f caps vs hl h => exact single _ rfl rfl (.fn f caps vs hl h)
  | bm f caps vs hl h => exact single _ rfl rfl (.bm f caps vs hl h)
  | agg cs vs hl h => exact many cs vs rfl rfl hl h
  | tup => simp [SV.cells, SV.one] at hx
  | gd => simp [SV.cells, SV.one] at hx
  | j => simp [SV.cells, SV.one] at hx
end

theorem V.ofList {β : List Value} {Φ : Fz} {cs : List SV} {f : Nat → Value} (h : ∀ (j : Nat) x, cs[j]? = some x → V β Φ x (f j)) : V β Φ (.agg cs) (.agg ((List.range cs.length).map f).toArray) := by
  refine .agg cs _ (by simp) fun j x u hx hu => ?_
  rw [List.getElem?_map] at hu
  obtain ⟨i, hi, rfl⟩ := Option.map_eq_some_iff.1 hu
  have hlt := (List.getElem?_eq_some_iff.1 hx).1
  rw [List.getElem?_range hlt] at hi
  cases hi
  exact h j x hx

/-! constants and operands -/
theorem pv1_ok {Φ : Fz} {v : Value} {x : PV} (h : pv1 v = some x) : VP Φ x v := by
  unfold pv1 at h
  split at h <;> first | cases h | skip
  · exact .b _
  · exact .i _ _
  · rename_i s
    have e : s = ⟨s.data.toList.toArray⟩ := by cases s; simp
    conv => rhs; rw [e]
    exact .s _
  · exact .np
  · exact .nm
  · exact .nfn
  · exact .fz 0 [] (some 0) none 0 (fun _ _ => default) (by simp) (by simp) (by simp) (by simp) (by simp) (by simp) (by simp)

theorem pvs_ok {Φ : Fz} : ∀ {l : List Value} {r : List PV}, pvs l = some r → r.length = l.length ∧ ∀ (j : Nat) x v, r[j]? = some x → l[j]? = some v → VP Φ x v
  | [], r, h => by cases h; simp
  | v :: l, r, h => by
    unfold pvs at h
    split at h
    · rename_i x r' h1 h2
      cases h
      obtain ⟨hl, hr⟩ := pvs_ok (Φ := Φ) h2
      refine ⟨by simp [hl], fun j y u hy hu => ?_⟩
      cases j with
      | zero => simp at hy hu; subst hy hu; exact pv1_ok h1
      | succ j => exact hr j y u (by simpa using hy) (by simpa using hu)
    · cases h

theorem cst_ok {β : List Value} {Φ : Fz} (v : Value) : V β Φ (cst v) v := by
  unfold cst
  split
  · rename_i x h; exact .u _ _ (pv1_ok h)
  · exact .j _

theorem EnvOK.opnd {β : List Value} {Φ : Fz} {e : Env} {a : Act} (h : EnvOK β Φ e a.tmps) (hg : GOK Φ) (x : Operand) : V β Φ (opnd e x) (a.eval x) := by
  cases x with
  | tmp t => exact h t
  | const v => exact cst_ok v
  | global g =>
    unfold Nm.opnd
    simp only
    cases hG : Glob g with
    | none => exact .j _
    | some cs =>
      obtain ⟨f, hf⟩ := hg g cs hG
      refine .u _ _ (.fp cs ⟨g, 0, none⟩ f (fun j x hj => ?_) fun j x hj => (hf j x hj).2)
      rw [Addr.add_lit, Nat.zero_add]
      exact (hf j x hj).1
  | func f => exact .u _ _ (.fn f [] [] rfl (by simp))

theorem EnvOK.mono {β β' : List Value} {Φ Φ' : Fz} {e : Env} {tmps : Array Value} (hb : BExt β β') (hle : Φ.le Φ') (h : EnvOK β Φ e tmps) : EnvOK β' Φ' e tmps := fun t => (h t).mono hb hle

theorem EnvOK.put {β : List Value} {Φ : Fz} {e : Env} {a : Act} (h : EnvOK β Φ e a.tmps) {d : Option Nat} {x : SV} {v : Value} (hd : ∀ t, d = some t → t < a.tmps.size) (hv : V β Φ x v) :
    EnvOK β Φ (e.put d x) (a.put d v).tmps := by
  cases d with
  | none => exact h
  | some d =>
    intro t
    have hlt := hd d rfl
    simp only [Env.put, Act.put, Env.get]
    by_cases e : d = t
    · subst e
      simp [Array.getD_eq_getD_getElem?, Array.getElem?_setIfInBounds, hlt]
      exact hv
    · rw [if_neg e]
      have := h t
      simpa [Array.getD_eq_getD_getElem?, Array.getElem?_setIfInBounds, e] using this

theorem tiOf_inv {P : Program} {t : TypeId} {ti : TI} (h : tiOf P t = some ti) : ∃ i d z, P.info? t = some i ∧ P.underlying t = some d ∧ i.zero = some z ∧ pvs z.cells.toList = some ti.zero ∧ i.size = ti.size ∧ i.bytes = ti.bytes ∧ tkOf d = ti.kind ∧ isAggV z = ti.zagg := by
  unfold tiOf at h
  split at h
  · rename_i i d h1 h2
    split at h
    · rename_i z hz
      split at h
      · rename_i zc hzc
        cases h
        exact ⟨i, d, z, h1, h2, hz, hzc, rfl, rfl, rfl, rfl⟩
      · cases h
    · cases h
  · cases h

section
variable {P : Program} {t : TypeId} {ti : TI}
theorem run_sizeOf (h : tiOf P t = some ti) (w : World) : (sizeOf t).run P w = .ok ti.size w := by
  obtain ⟨i, d, z, h1, _, _, _, h5, _⟩ := tiOf_inv h
  simp [sizeOf, typeInfo, h1, h5]
theorem run_isAgg (h : tiOf P t = some ti) (w : World) : (isAgg t).run P w = .ok ti.kind.agg w := by
  obtain ⟨i, d, z, _, h2, _, _, _, _, h7, _⟩ := tiOf_inv h
  simp only [isAgg, Sem.run_bind, run_underlying h2, Result.andThen_ok]
  rw [← h7]
  cases d <;> rfl
theorem run_loadVar (h : tiOf P t = some ti) (a : Addr) (f : Nat → Value) (w : World) (h0 : 0 < ti.size) (hc : ∀ j, j < ti.size → w.cell? (a.add j) = some (f j)) :
    (loadVar t a).run P w = .ok (if ti.kind.agg then .agg ((List.range ti.size).map f).toArray else f 0) w := by
  simp only [loadVar, Sem.run_bind, run_isAgg h, Result.andThen_ok]
  cases hk : ti.kind.agg with
  | true =>
    simp only [if_true, Sem.run_bind, run_sizeOf h, Result.andThen_ok]
    rw [run_loadCells (P := P) w a ti.size f hc]
    simp
  | false =>
    have := hc 0 h0
    simp only [Addr.add_zero'] at this
    simp [this]
end

theorem add_add (a : Addr) (i j : Nat) : (a.add i).add j = a.add (i + j) := by
  unfold Addr.add
  by_cases hi : i = 0 <;> by_cases hj : j = 0 <;> simp [hi, hj, Nat.add_assoc]

theorem Fz.cell_of {w0 : World} {ω0 : Nat → Nat} {β : List Value} {σ : List SObj} {Φ : Fz} {ω : Nat → Nat} {w : World} (h : Rep w0 ω0 β σ Φ ω w) {a : Addr} {v : Value} (hc : Φ.cell a = some v) : w.cell? a = some v := by
  unfold Fz.cell at hc
  cases hb : Φ a.block with
  | none => simp [hb] at hc
  | some o =>
    have := (h.fz _ _ hb).2
    unfold World.cell?
    rw [this]
    rw [hb] at hc
    exact hc

/-- the cells behind an address, read -/
def CellsAt (w : World) (β : List Value) (Φ : Fz) (a : Addr) (cs : List SV) : Prop := ∀ (j : Nat) x, cs[j]? = some x → ∃ u, w.cell? (a.add j) = some u ∧ V β Φ x u

theorem load_cells {P : Program} {t : TypeId} {ti : TI} (h : tiOf P t = some ti) {w : World} {β : List Value} {Φ : Fz} {a : Addr} {cs : List SV} (hc : CellsAt w β Φ a cs) {off : Nat} (h0 : 0 < ti.size) (hl : off + ti.size ≤ cs.length) :
    ∃ v, (loadVar t (a.add off)).run P w = .ok v w ∧ V β Φ (rdCells ti cs off) v := by
  have hex : ∀ j, j < ti.size → ∃ u, w.cell? ((a.add off).add j) = some u ∧ V β Φ (cs.getD (off + j) .j) u := by
    intro j hj
    have hlt : off + j < cs.length := by omega
    obtain ⟨u, h1, h2⟩ := hc (off + j) _ (List.getElem?_eq_getElem hlt)
    refine ⟨u, by rw [add_add]; exact h1, ?_⟩
    rw [List.getD_eq_getElem?_getD, List.getElem?_eq_getElem hlt]
    exact h2
  have hch : ∃ f : Nat → Value, ∀ j, j < ti.size → w.cell? ((a.add off).add j) = some (f j) ∧ V β Φ (cs.getD (off + j) .j) (f j) :=
    ⟨fun j => if hj : j < ti.size then Classical.choose (hex j hj) else .bool false, fun j hj => by simp only [dif_pos hj]; exact Classical.choose_spec (hex j hj)⟩
  obtain ⟨f, hf⟩ := hch
  refine ⟨_, run_loadVar h (a.add off) f w h0 fun j hj => (hf j hj).1, ?_⟩
  unfold rdCells
  cases hk : ti.kind.agg with
  | true =>
    simp only [if_true]
    have hlen : ((cs.drop off).take ti.size).length = ti.size := by simp; omega
    have := V.ofList (β := β) (Φ := Φ) (cs := (cs.drop off).take ti.size) (f := f) fun j x hx => by
      have hlt : j < ti.size := by have := (List.getElem?_eq_some_iff.1 hx).1; omega
      have h2 := (hf j hlt).2
      rw [List.getElem?_take, if_pos hlt, List.getElem?_drop] at hx
      rw [List.getD_eq_getElem?_getD, hx] at h2
      exact h2
    rw [hlen] at this
    exact this
  | false =>
    simpa using (hf 0 h0).2

section
variable {w0 : World} {ω0 : Nat → Nat} {β : List Value} {σ : List SObj} {Φ : Fz} {ω : Nat → Nat} {w : World}

theorem cellsAt_fp {cs : List PV} {v : Value} (h : Rep w0 ω0 β σ Φ ω w) (hv : V β Φ (.u (.fp cs)) v) : ∃ a, v = .pointer (some a) ∧ CellsAt w β Φ a (cs.map .u) := by
  obtain ⟨a, f, rfl, h1, h2⟩ := hv.inv_fp
  refine ⟨a, rfl, fun j x hx => ?_⟩
  rw [List.getElem?_map] at hx
  obtain ⟨y, hy, rfl⟩ := Option.map_eq_some_iff.1 hx
  exact ⟨f j, Fz.cell_of h (h1 j y hy), .u _ _ (h2 j y hy)⟩

theorem cellsAt_p {n : Nat} {vs : List SV} (h : Rep w0 ω0 β σ Φ ω w) (hn : σ[n]? = some (.cells vs)) : ∃ b cs T, β[n]? = some (.pointer (some ⟨b, 0, none⟩)) ∧ ω b = n + 2 ∧ w.heap[b]? = some (.cells cs T (0, 0)) ∧ cs.size = vs.length ∧
    (∀ (j : Nat) x u, vs[j]? = some x → cs[j]? = some u → V β Φ x u) ∧ CellsAt w β Φ ⟨b, 0, none⟩ vs := by
  obtain ⟨v, hv, b, cs, T, rfl, hw, hh, hs, hj⟩ := h.at_ hn
  refine ⟨b, cs, T, hv, hw, hh, hs, hj, fun j x hx => ?_⟩
  have hlt := (List.getElem?_eq_some_iff.1 hx).1
  have hcs : cs[j]? = some (cs[j]'(by omega)) := Array.getElem?_eq_getElem (by omega)
  refine ⟨_, ?_, hj j x _ hx hcs⟩
  rw [Addr.add_lit, Nat.zero_add, cell_of_row w b j cs T (0, 0) hh, hcs]

theorem cellsAt_rp {n sz i : Nat} {T : TypeId} {els : List (List PV)} (h : Rep w0 ω0 β σ Φ ω w) (hn : σ[n]? = some (.row T sz els)) (hi : i < els.length) : ∃ b l c, β[n]? = some (.slice (some ⟨b, 0, none⟩) l c) ∧
    (els.getD i []).length = sz ∧ CellsAt w β Φ ⟨b, i * sz, none⟩ ((els.getD i []).map .u) := by
  obtain ⟨v, hv, hO⟩ := h.at_ hn
  rcases hO with ⟨_, _, rfl⟩ | ⟨b, cap, cs, rfl, hw, hh, hs, hl, hm, he, hj⟩
  · simp at hi
  · have hei : els[i]? = some (els[i]) := List.getElem?_eq_getElem hi
    have hg : els.getD i [] = els[i] := by rw [List.getD_eq_getElem?_getD, hei]; rfl
    have hlen : els[i].length = sz := he _ (List.getElem_mem hi)
    refine ⟨b, _, cap, hv, by rw [hg]; exact hlen, fun j x hx => ?_⟩
    rw [hg, List.getElem?_map] at hx
    obtain ⟨y, hy, rfl⟩ := Option.map_eq_some_iff.1 hx
    have hjl : j < sz := by have := (List.getElem?_eq_some_iff.1 hy).1; omega
    have hb : i * sz + j < cs.size := by
      rw [hs]
      have : (i + 1) * sz ≤ cap * sz := Nat.mul_le_mul_right _ (by omega)
      rw [Nat.succ_mul] at this; omega
    have hcs : cs[i * sz + j]? = some (cs[i * sz + j]) := Array.getElem?_eq_getElem hb
    refine ⟨_, ?_, .u _ _ (hj i _ j y _ hei hy hcs)⟩
    rw [Addr.add_lit, cell_of_row w b _ cs T (0, 0) hh, hcs]
end

theorem load_val {P : Program} {t : TypeId} {ti : TI} (ht : tiOf P t = some ti) {σf : Nat → SObj} {x : SV} {ob : Prop} {rd : List (Nat × SObj)} {r : SV} {wr : List (Nat × SObj)}
    (he : evLoad σf ti x = .ok ob rd r wr) (hob : ob) (h0 : 0 < ti.size) {w0 : World} {ω0 : Nat → Nat} {β : List Value} {Φ : Fz} {ω : Nat → Nat} {σ : List SObj} {w : World} (hR : Rep w0 ω0 β σ Φ ω w) {v : Value} (hv : V β Φ x v)
    (hrd : ∀ n ob, (n, ob) ∈ rd → σ[n]? = some ob) : wr = [] ∧ ∃ a u, v = .pointer (some a) ∧ (loadVar t a).run P w = .ok u w ∧ V β Φ r u := by
  unfold evLoad at he
  split at he
  · rename_i n off
    split at he
    · rename_i vs hσ
      cases he
      refine ⟨rfl, ?_⟩
      obtain ⟨b, cs, T, hβ, hw, hh, hs, hj, hc⟩ := cellsAt_p hR (hrd n (.cells vs) (by simp))
      obtain ⟨a, ha, hv⟩ := hv.inv_p
      rw [hβ] at ha; cases ha
      obtain ⟨u, h1, h2⟩ := load_cells ht hc h0 hob
      exact ⟨_, u, hv, h1, h2⟩
    · cases he
  · rename_i n sz i off
    split at he
    · rename_i T s els hσ
      cases he
      refine ⟨rfl, ?_⟩
      obtain ⟨rfl, hi, hl⟩ := hob
      obtain ⟨b, l, c, hβ, hlen, hc⟩ := cellsAt_rp hR (hrd n (.row T s els) (by simp)) hi
      obtain ⟨a, l', c', ha, hv⟩ := hv.inv_rp
      rw [hβ] at ha; cases ha
      obtain ⟨u, h1, h2⟩ := load_cells ht hc (off := off) h0 (by rw [List.length_map]; omega)
      refine ⟨_, u, hv, ?_, h2⟩
      rw [← h1, Addr.add_lit, Addr.add_lit, Nat.zero_add]
    · cases he
  · rename_i cs
    cases he
    refine ⟨rfl, ?_⟩
    obtain ⟨a, ha, hc⟩ := cellsAt_fp hR hv
    obtain ⟨u, h1, h2⟩ := load_cells ht hc (off := 0) h0 (by simpa using hob)
    exact ⟨a, u, ha, by rw [Addr.add_zero'] at h1; exact h1, h2⟩
  · cases he

theorem op_load {P : Program} {o : Oper} {g : Operand → SV} {t : TypeId} {x : Operand} {ti : TI} (ho : o.op = .load t x) (ht : tiOf P t = some ti) {σf : Nat → SObj} {ob : Prop} {rd : List (Nat × SObj)} {r : SV} {wr : List (Nat × SObj)}
    (he : evLoad σf ti (g x) = .ok ob rd r wr) (hob : ob) (h0 : 0 < ti.size) : OpR P o g rd r wr := by
  have hwr : wr = [] := by
    unfold evLoad at he
    split at he <;> first | (split at he <;> cases he <;> rfl) | (cases he; done) | (cases he; rfl)
  subst hwr
  refine OpR.read fun w0 ω0 β Φ ω σ w ρ hR hg hrd => ?_
  obtain ⟨_, a, u, h1, h2, h3⟩ := load_val ht he hob h0 hR (hg x) hrd
  refine ⟨u, ?_, h3⟩
  simp only [execOp, ho, Instr.loadAt, h1, Instr.sureAddr, Sem.run_bind, Sem.run_pure, Result.andThen_ok, h2]

/-! new objects -/
section
variable {w0 : World} {ω0 : Nat → Nat} {β : List Value} {σ : List SObj} {Φ : Fz} {ω : Nat → Nat} {w : World}

theorem Rep.unborn (h : Rep w0 ω0 β σ Φ ω w) {n : Nat} (hn : σ[n]? = some .unborn) : β[n]? = some (.bool false) := by
  obtain ⟨v, hv, hO⟩ := h.at_ hn
  rw [hv, show v = .bool false from hO]

/-- a new block, for a name kept free -/
theorem Rep.born (h : Rep w0 ω0 β σ Φ ω w) {n : Nat} (hn : σ[n]? = some .unborn) (o : Obj) (ob : SObj) (v : Value)
    (hob : ∀ (ω' : Nat → Nat) (β' : List Value), ω' w.heap.size = n + 2 → BExt β β' → O β' Φ (w.alloc o).heap ω' n ob v) :
    ∃ ω', BExt β (β.set n v) ∧ (β.set n v).length = β.length ∧ (β.set n v)[n]? = some v ∧ Rep w0 ω0 (β.set n v) (σ.set n ob) Φ ω' (w.alloc o) := by
  have hb := h.unborn hn
  have hlt : n < σ.length := (List.getElem?_eq_some_iff.1 hn).1
  have hlt' : n < β.length := by rw [h.len]; exact hlt
  have hext : BExt β (β.set n v) := by
    intro m u hm hr
    by_cases e : m = n
    · subst e; rw [hb] at hm; cases hm; simp [isRef] at hr
    · rw [List.getElem?_set_ne (fun h => e h.symm)]; exact hm
  refine ⟨fun b => if b = w.heap.size then n + 2 else ω b, hext, by simp, List.getElem?_set_self hlt', ?_⟩
  refine h.upd hlt rfl rfl rfl (by simp) ?_ ?_ ?_ (Fz.le_refl _) ?_ (hob _ _ (by simp) hext)
  · intro u hu hr; rw [hb] at hu; cases hu; simp [isRef] at hr
  · intro b hbl _
    refine ⟨Go.RowKit.Below.heap_alloc w o b hbl, ?_⟩
    rw [if_neg (by omega)]
  · intro b hb0
    by_cases e : b = w.heap.size
    · subst e; simp
    · rw [if_neg e] at hb0; have := h.lt b hb0; simp; omega
  · intro b ob' hbo
    obtain ⟨h1, h2⟩ := h.fz b ob' hbo
    have := h.lt b (by rw [h1]; omega)
    exact ⟨by rw [if_neg (by omega)]; exact h1, by rw [Go.RowKit.Below.heap_alloc w o b this]; exact h2⟩

theorem Rep.born_cells (h : Rep w0 ω0 β σ Φ ω w) {n : Nat} (hn : σ[n]? = some .unborn) {cs : Array Value} {vs : List SV} (T : TypeId) (hs : cs.size = vs.length) (hj : ∀ (j : Nat) x u, vs[j]? = some x → cs[j]? = some u → V β Φ x u) :
    ∃ ω' β', BExt β β' ∧ β'.length = β.length ∧ β'[n]? = some (.pointer (some ⟨w.heap.size, 0, none⟩)) ∧ Rep w0 ω0 β' (σ.set n (.cells vs)) Φ ω' (w.alloc (.cells cs T)) := by
  obtain ⟨ω', h1, h2, h3, h4⟩ := h.born hn (.cells cs T) (.cells vs) (.pointer (some ⟨w.heap.size, 0, none⟩)) fun ω' β' hω hext =>
    ⟨w.heap.size, cs, T, rfl, hω, heap_alloc_new w _, hs, fun j x u hx hu => (hj j x u hx hu).mono hext (Fz.le_refl _)⟩
  exact ⟨ω', _, h1, h2, h3, h4⟩
end

theorem op_alloc {P : Program} {o : Oper} {g : Operand → SV} {t : TypeId} {ti : TI} (ho : o.op = .alloc t) (ht : tiOf P t = some ti) (N : Nat) :
    OpR P o g [(N, .unborn)] (.p N 0) [(N, .cells (ti.zero.map .u))] := by
  intro w0 ω0 β Φ ω σ w ρ hR hg hrd
  obtain ⟨i, d, z, h1, h2, h3, h4, h5, h6, h7⟩ := tiOf_inv ht
  obtain ⟨hl, hz⟩ := pvs_ok (Φ := Φ) h4
  obtain ⟨ω', β', q1, q2, q3, q4⟩ := hR.born_cells (hrd N _ (by simp)) (cs := z.cells) (vs := ti.zero.map .u) t (by simp [hl]) (fun j x u hx hu => by
    rw [List.getElem?_map] at hx
    obtain ⟨y, hy, rfl⟩ := Option.map_eq_some_iff.1 hx
    exact .u _ _ (hz j y u hy (by simpa using hu)))
  refine ⟨.value (.pointer (some ⟨w.heap.size, 0, none⟩)), _, w.alloc (.cells z.cells t), β', Φ, ω', ?_, .inl rfl, q1, q2, Fz.le_refl _, ?_, q4⟩
  · simp only [execOp, ho, Instr.alloc, Sem.run_bind, zeroValue, typeInfo, run_program, Result.andThen_ok, h1, Sem.run_pure, h3, newVar, newRow, run_newObj]
    rfl
  · exact .p N 0 _ q3

theorem op_box {P : Program} {o : Oper} {g : Operand → SV} {t : TypeId} {x : Operand} (ho : o.op = .box t x) (N : Nat) (hx : (g x).cells.all SV.one = true) :
    OpR P o g [(N, .unborn)] (.p N 0) [(N, .cells (g x).cells)] := by
  intro w0 ω0 β Φ ω σ w ρ hR hg hrd
  obtain ⟨hs, hj, _⟩ := (hg x).cells hx
  obtain ⟨ω', β', q1, q2, q3, q4⟩ := hR.born_cells (hrd N _ (by simp)) (cs := (ρ x).cells) (vs := (g x).cells) t hs hj
  refine ⟨.value (.pointer (some ⟨w.heap.size, 0, none⟩)), _, w.alloc (.cells (ρ x).cells t), β', Φ, ω', ?_, .inl rfl, q1, q2, Fz.le_refl _, ?_, q4⟩
  · simp only [execOp, ho, Instr.box, Sem.run_bind, Sem.run_pure, Result.andThen_ok, newVar, newRow, run_newObj]
    rfl
  · exact .p N 0 _ q3


/-! ### stores -/
theorem wr_get (vs : List SV) (off : Nat) (x : List SV) (hl : off + x.length ≤ vs.length) (j : Nat) :
    (wrCells vs off x)[j]? = if off ≤ j ∧ j < off + x.length then x[j - off]? else vs[j]? := by
  unfold wrCells
  have e1 : (vs.take off).length = off := by simp; omega
  by_cases h1 : j < off
  · rw [if_neg (by omega), List.append_assoc, List.getElem?_append_left (by omega), List.getElem?_take, if_pos h1]
  · by_cases h2 : j < off + x.length
    · rw [if_pos ⟨by omega, h2⟩, List.append_assoc, List.getElem?_append_right (by omega), List.getElem?_append_left (by omega), e1]
    · rw [if_neg (by omega), List.getElem?_append_right (by simp; omega), List.getElem?_drop]
      congr 1
      simp; omega

theorem wr_length (vs : List SV) (off : Nat) (x : List SV) (hl : off + x.length ≤ vs.length) : (wrCells vs off x).length = vs.length := by
  unfold wrCells; simp; omega

/-- the row after cells are stored -/
theorem row_get (cur : Array Value) (off : Nat) (x : List Value) (hl : off + x.length ≤ cur.size) (j : Nat) :
    ((cur.toList.take (off + 0) ++ x ++ cur.toList.drop (off + 0 + x.length)).toArray)[j]? = if off ≤ j ∧ j < off + x.length then x[j - off]? else cur[j]? := by
  have e1 : (cur.toList.take (off + 0)).length = off := by simp; omega
  rw [List.getElem?_toArray]
  by_cases h1 : j < off
  · rw [if_neg (by omega), List.append_assoc, List.getElem?_append_left (by omega), List.getElem?_take, if_pos (by omega)]; simp
  · by_cases h2 : j < off + x.length
    · rw [if_pos ⟨by omega, h2⟩, List.append_assoc, List.getElem?_append_right (by omega), List.getElem?_append_left (by omega), e1]
    · rw [if_neg (by omega), List.getElem?_append_right (by simp; omega), List.getElem?_drop]
      simp only [List.length_append, e1, Array.getElem?_toList]
      congr 1; omega

theorem run_storeVar {P : Program} {t : TypeId} {ti : TI} (ht : tiOf P t = some ti) {w : World} {b off : Nat} {cs : Array Value} {T : TypeId} (hh : w.heap[b]? = some (.cells cs T (0, 0))) {v : Value}
    (hs : v.cells.size = ti.size) (h1 : ∀ u ∈ v.cells.toList, u.oneCell' = true) (hl : off + ti.size ≤ cs.size) :
    (storeVar t ⟨b, off, none⟩ v).run P w = .ok () (w.setRow b (cs.toList.take (off + 0) ++ v.cells.toList ++ cs.toList.drop (off + 0 + v.cells.toList.length)).toArray) := by
  unfold storeVar
  rw [if_neg_run ht hs]
  exact run_storeCells_at (P := P) b off T v.cells.toList 0 cs w hh (by simp [hs]; omega) h1
where
  if_neg_run {P : Program} {t : TypeId} {ti : TI} (ht : tiOf P t = some ti) {w : World} {v : Value} (hs : v.cells.size = ti.size) {k : Sem Unit} :
      (do if v.cells.size ≠ (← sizeOf t) then stuck "storeVar: the value has not the size of the variable"
          k : Sem Unit).run P w = k.run P w := by
    simp [run_sizeOf ht, hs]

section
variable {w0 : World} {ω0 : Nat → Nat} {β : List Value} {σ : List SObj} {Φ : Fz} {ω : Nat → Nat} {w : World}

theorem set_same {β : List Value} {n : Nat} {v : Value} (h : β[n]? = some v) : β.set n v = β := by
  apply List.ext_getElem?
  intro i
  by_cases e : i = n
  · subst e
    rw [List.getElem?_set_self (List.getElem?_eq_some_iff.1 h).1, h]
  · rw [List.getElem?_set_ne (fun h => e h.symm)]

/-- the object of a name, turned in place -/
theorem Rep.turn (h : Rep w0 ω0 β σ Φ ω w) {n b : Nat} {ob ob' : SObj} {v : Value} (hn : σ[n]? = some ob) (hv : β[n]? = some v) (hb : ω b = n + 2) {w' : World}
    (ho : w'.os = w.os) (ht : w'.tape = w.tape) (hu : w'.output = w.output) (hs : w'.heap.size = w.heap.size) (oth : ∀ k, k ≠ b → w'.heap[k]? = w.heap[k]?)
    (hob : O β Φ w'.heap ω n ob' v) : Rep w0 ω0 β (σ.set n ob') Φ ω w' := by
  have hlt : n < σ.length := (List.getElem?_eq_some_iff.1 hn).1
  have e := set_same hv
  have hob2 : O (β.set n v) Φ w'.heap ω n ob' v := by rw [e]; exact hob
  have := h.upd (n := n) (ob' := ob') (v' := v) (w' := w') (ω' := ω) (Φ' := Φ) hlt ho ht hu (Nat.le_of_eq hs.symm) (fun u hu _ => by rw [hv] at hu; exact Option.some.inj hu)
    (fun k hk hne => ⟨oth k (fun e => hne (e ▸ hb)), rfl⟩) (fun k hk => by rw [hs]; exact h.lt k hk) (Fz.le_refl _)
    (fun k o hk => by
      obtain ⟨h1, h2⟩ := h.fz k o hk
      exact ⟨h1, by rw [oth k (fun e => by subst e; omega)]; exact h2⟩) hob2
  rw [e] at this
  exact this

theorem Rep.store_cells (h : Rep w0 ω0 β σ Φ ω w) {n off : Nat} {vs xs : List SV} (hn : σ[n]? = some (.cells vs)) {us : List Value} (hl : us.length = xs.length) (hu : ∀ (j : Nat) x u, xs[j]? = some x → us[j]? = some u → V β Φ x u)
    (hoff : off + xs.length ≤ vs.length) : ∃ b cs T, β[n]? = some (.pointer (some ⟨b, 0, none⟩)) ∧ w.heap[b]? = some (.cells cs T (0, 0)) ∧ cs.size = vs.length ∧
      Rep w0 ω0 β (σ.set n (.cells (wrCells vs off xs))) Φ ω (w.setRow b (cs.toList.take (off + 0) ++ us ++ cs.toList.drop (off + 0 + us.length)).toArray) := by
  obtain ⟨b, cs, T, hβ, hω, hh, hs, hj, _⟩ := cellsAt_p h hn
  refine ⟨b, cs, T, hβ, hh, hs, ?_⟩
  refine h.turn hn hβ hω rfl rfl rfl (by simp) (fun k hk => setRow_other w b k _ hk) ?_
  refine ⟨b, _, T, rfl, hω, setRow_heap w b cs _ T (0, 0) hh, ?_, fun j x u hx hu' => ?_⟩
  · rw [wr_length _ _ _ hoff]; simp; omega
  · rw [wr_get _ _ _ hoff] at hx
    rw [row_get cs off us (by omega)] at hu'
    rw [hl] at hu'
    by_cases hc : off ≤ j ∧ j < off + xs.length
    · rw [if_pos hc] at hx hu'; exact hu _ x u hx hu'
    · rw [if_neg hc] at hx hu'; exact hj j x u hx hu'
end

theorem setAll_one (σ : List SObj) (n : Nat) (ob : SObj) : setAll σ [(n, ob)] = σ.set n ob := rfl

theorem pures_ok : ∀ {l : List SV} {r : List PV}, pures l = some r → l = r.map .u
  | [], r, h => by cases h; rfl
  | x :: l, r, h => by
    unfold pures at h
    split at h
    · rename_i y l' h1 h2
      cases h
      cases x <;> simp [SV.pure?] at h1
      subst h1
      rw [pures_ok h2]; rfl
    · cases h

theorem op_store {P : Program} {o : Oper} {g : Operand → SV} {t : TypeId} {x y : Operand} {ti : TI} (ho : o.op = .store t x y) (ht : tiOf P t = some ti) {σf : Nat → SObj} {ob : Prop} {rd : List (Nat × SObj)} {r : SV} {wr : List (Nat × SObj)}
    (he : evStore σf ti (g x) (g y) = .ok ob rd r wr) (hob : ob) : OpR P o g rd r wr := by
  have hex : ∀ (ρ : Operand → Value) (a : Addr) (w w' : World), ρ x = .pointer (some a) → (storeVar t a (ρ y)).run P w = .ok () w' → (execOp ρ o).run P w = .ok .skip w' := by
    intro ρ a w w' h1 h2
    simp only [execOp, ho, Instr.storeAt, h1, Instr.sureAddr, Sem.run_bind, Sem.run_pure, Result.andThen_ok, h2]
  unfold evStore at he
  split at he
  · rename_i n off hx
    split at he
    · rename_i vs hσ
      cases he
      obtain ⟨h1, h2, h3⟩ := hob
      intro w0 ω0 β Φ ω σ w ρ hR hg hrd
      obtain ⟨hs, hj, hone⟩ := (hg y).cells h3
      obtain ⟨b, cs, T, hβ, hh, hcs, hR'⟩ := hR.store_cells (off := off) (hrd n (.cells vs) (by simp)) (us := (ρ y).cells.toList) (xs := (g y).cells) (by simpa using hs) (fun j u v hu hv => hj j u v hu (by simpa using hv)) (by omega)
      obtain ⟨a, ha, hv⟩ := (hx ▸ hg x : V β Φ (.p n off) (ρ x)).inv_p
      rw [hβ] at ha; cases ha
      have hst := run_storeVar (P := P) ht (off := off) hh (v := ρ y) (by omega) hone (by omega)
      refine ⟨.skip, undef, _, β, Φ, ω, hex ρ _ w _ hv ?_, .inr ⟨rfl, rfl⟩, BExt.refl _, rfl, Fz.le_refl _, .j _, hR'⟩
      rw [Addr.add_lit, Nat.zero_add]
      exact hst
    · cases he
  · rename_i n sz i off hx
    split at he
    · rename_i T s els l hσ hp
      cases he
      obtain ⟨rfl, hi, hl, h2, h3⟩ := hob
      have hpl := pures_ok hp
      intro w0 ω0 β Φ ω σ w ρ hR hg hrd
      obtain ⟨hs, hj, hone⟩ := (hg y).cells h3
      have hn := hrd n (.row T s els) (by simp)
      obtain ⟨v, hβ, hO⟩ := hR.at_ hn
      rcases hO with ⟨_, _, rfl⟩ | ⟨b, cap, cs, rfl, hω, hh, hcs, hcl, hm, he', hjj⟩
      · simp at hi
      · have hei : els[i]? = some (els[i]) := List.getElem?_eq_getElem hi
        have hgd : els.getD i [] = els[i] := by rw [List.getD_eq_getElem?_getD, hei]; rfl
        have hlen : els[i].length = s := he' _ (List.getElem_mem hi)
        have hpl' : (g y).cells.length = l.length := by rw [hpl]; simp
        have hbd : i * s + off + (ρ y).cells.toList.length ≤ cs.size := by
          rw [hcs]
          have : (i + 1) * s ≤ cap * s := Nat.mul_le_mul_right _ (by omega)
          rw [Nat.succ_mul] at this; simp; omega
        obtain ⟨a, l', c', ha, hv⟩ := (hx ▸ hg x : V β Φ (.rp n s i off) (ρ x)).inv_rp
        rw [hβ] at ha; cases ha
        have hst := run_storeVar (P := P) ht (off := i * s + off) hh (v := ρ y) (by omega) hone (by simp at hbd; omega)
        rw [Addr.add_lit, Nat.zero_add] at hv
        refine ⟨.skip, undef, _, β, Φ, ω, hex ρ _ w _ hv hst, .inr ⟨rfl, rfl⟩, BExt.refl _, rfl, Fz.le_refl _, .j _, ?_⟩
        · rw [setAll_one]
          refine hR.turn hn hβ hω rfl rfl rfl (by simp) (fun k hk => setRow_other w b k _ hk) ?_
          rw [hgd]
          refine .inr ⟨b, cap, _, by simp, hω, setRow_heap w b cs _ T (0, 0) hh, by simp at hbd ⊢; omega, by simpa using hcl, hm, ?_, ?_⟩
          · intro e hem
            rcases List.mem_or_eq_of_mem_set hem with h | h
            · exact he' e h
            · subst h; simp; omega
          · intro k e j z u hk hz hu
            rw [row_get cs (i * s + off) _ hbd] at hu
            by_cases hki : k = i
            · subst hki
              rw [List.getElem?_set_self hi] at hk
              cases hk
              have hzlt := (List.getElem?_eq_some_iff.1 hz).1
              have hjs : j < s := by simp at hzlt; omega
              have e2 : List.take off els[k] ++ l ++ List.drop (off + l.length) els[k] = (List.take off els[k] ++ (l ++ List.drop (off + l.length) els[k])) := by simp
              have elen : (List.take off els[k]).length = off := by simp; omega
              by_cases hc : off ≤ j ∧ j < off + l.length
              · rw [if_pos (by simp; omega)] at hu
                rw [e2, List.getElem?_append_right (by omega), List.getElem?_append_left (by omega), elen] at hz
                have := hj (j - off) (.u z) u (by rw [hpl, List.getElem?_map, hz]; rfl) (by simpa [show k * s + j - (k * s + off) = j - off by omega] using hu)
                cases this with | u _ _ h => exact h
              · rw [if_neg (by simp; omega)] at hu
                refine hjj k _ j z u hei ?_ hu
                by_cases hlo : j < off
                · rw [e2, List.getElem?_append_left (by omega), List.getElem?_take, if_pos hlo] at hz; exact hz
                · rw [List.getElem?_append_right (by simp; omega), List.getElem?_drop] at hz
                  rw [← hz]; congr 1; simp; omega
            · rw [List.getElem?_set_ne (fun h => hki h.symm)] at hk
              have hkl := (List.getElem?_eq_some_iff.1 hk).1
              have hjs : j < s := by
                have h1 := (List.getElem?_eq_some_iff.1 hz).1
                have h2 := he' e (List.mem_of_getElem? hk)
                omega
              have hne : ¬ (i * s + off ≤ k * s + j ∧ k * s + j < i * s + off + (ρ y).cells.toList.length) := by
                intro ⟨q1, q2⟩
                simp at q2
                rcases Nat.lt_or_gt_of_ne hki with h | h
                · have : (k + 1) * s ≤ i * s := Nat.mul_le_mul_right _ h
                  rw [Nat.succ_mul] at this; omega
                · have : (i + 1) * s ≤ k * s := Nat.mul_le_mul_right _ h
                  rw [Nat.succ_mul] at this; omega
              rw [if_neg hne] at hu
              exact hjj k e j z u hk hz hu
    · cases he
  · cases he

/-! ### fields -/
def evFieldAddr (P : Program) (t : TypeId) (f : Nat) (x : SV) : Ev :=
  match (tiOf P t) with
  | some ti => match ti.kind with
    | .struct fs => match fs[f]? with
      | some (off, ft) => match tiOf P ft with
        | some fti => match x with
          | .p n o => .ok (0 < fti.size) [] (.p n (o + off)) []
          | .rp n sz i o => .ok (0 < fti.size) [] (.rp n sz i (o + off)) []
          | .u (.fp cs) => .ok (0 < fti.size) [] (.u (.fp (cs.drop off))) []
          | _ => .bad
        | none => .bad
      | none => .bad
    | _ => .bad
  | none => .bad

theorem struct_of {P : Program} {t : TypeId} {ti : TI} {fs : List (Nat × TypeId)} (h : tiOf P t = some ti) (hk : ti.kind = .struct fs) : ∃ F : Array Field, P.underlying t = some (.struct F) ∧ fs = F.toList.map fun f => (f.offset, f.type) := by
  obtain ⟨i, d, z, _, h2, _, _, _, _, h7, _⟩ := tiOf_inv h
  rw [hk] at h7
  cases d <;> simp [tkOf] at h7
  exact ⟨_, h2, h7.symm⟩

theorem op_fieldAddr {P : Program} {o : Oper} {g : Operand → SV} {t : TypeId} {x : Operand} {f : Nat} (ho : o.op = .fieldAddr t x f) {ob : Prop} {rd : List (Nat × SObj)} {r : SV} {wr : List (Nat × SObj)}
    (he : evFieldAddr P t f (g x) = .ok ob rd r wr) (hob : ob) : OpR P o g rd r wr := by
  unfold evFieldAddr at he
  split at he <;> try cases he
  rename_i ti ht
  split at he <;> try cases he
  rename_i fs hk
  split at he <;> try cases he
  rename_i off ft hf
  split at he <;> try cases he
  rename_i fti hft
  obtain ⟨F, hu, hF⟩ := struct_of ht hk
  have hex : ∀ (ρ : Operand → Value) (a : Addr) (w : World), ρ x = .pointer (some a) → 0 < fti.size → (execOp ρ o).run P w = .ok (.value (.pointer (some (a.add off)))) w := by
    intro ρ a w h1 h2
    rw [hF, List.getElem?_map] at hf
    obtain ⟨fd, hfd, hfe⟩ := Option.map_eq_some_iff.1 hf
    cases hfe
    have hfd' : F[f]? = some fd := by simpa using hfd
    simp only [execOp, ho, Instr.fieldAt, h1, Instr.sureAddr, Sem.run_bind, run_underlying hu, Result.andThen_ok, hfd', Sem.run_pure, fieldPlace, run_sizeOf hft, Sem.run_ite]
    rw [if_neg (by omega)]
    rfl
  split at he
  · rename_i n o' hx
    cases he
    refine OpR.pure fun β Φ ρ w hg => ?_
    obtain ⟨a, ha, hv⟩ := (hx ▸ hg x : V β Φ (.p n o') (ρ x)).inv_p
    refine ⟨_, hex ρ _ w hv hob, ?_⟩
    rw [add_add]
    exact .p n (o' + off) a ha
  · rename_i n sz i o' hx
    cases he
    refine OpR.pure fun β Φ ρ w hg => ?_
    obtain ⟨a, l, c, ha, hv⟩ := (hx ▸ hg x : V β Φ (.rp n sz i o') (ρ x)).inv_rp
    refine ⟨_, hex ρ _ w hv hob, ?_⟩
    rw [add_add, Nat.add_assoc]
    exact .rp n sz i (o' + off) a l c ha
  · rename_i cs hx
    cases he
    refine OpR.pure fun β Φ ρ w hg => ?_
    obtain ⟨a, fv, hv, h1, h2⟩ := (hx ▸ hg x : V β Φ (.u (.fp cs)) (ρ x)).inv_fp
    refine ⟨_, hex ρ _ w hv hob, .u _ _ (.fp _ _ (fun j => fv (off + j)) (fun j y hy => ?_) fun j y hy => ?_)⟩
    · rw [add_add]; exact h1 _ y (by rwa [List.getElem?_drop] at hy)
    · exact h2 _ y (by rwa [List.getElem?_drop] at hy)
  · cases he

def isAggSV : SV → Bool
  | .agg _ | .u (.agg _) => true
  | _ => false

theorem V.agg_cells {β : List Value} {Φ : Fz} {x : SV} {v : Value} (h : V β Φ x v) (hx : isAggSV x = true) : ∃ vs : List Value, v = .agg vs.toArray ∧ vs.length = x.cells.length ∧ ∀ (j : Nat) y (u : Value), x.cells[j]? = some y → vs[j]? = some u → V β Φ y u := by
  cases x <;> try (simp [isAggSV] at hx; done)
  · rename_i p
    cases p <;> try (simp [isAggSV] at hx; done)
    obtain ⟨vs, rfl, hl, hj⟩ := h.inv_uagg
    refine ⟨vs, rfl, by simpa [SV.cells] using hl, fun j y u hy hu => ?_⟩
    simp only [SV.cells, List.getElem?_map] at hy
    obtain ⟨q, hq, rfl⟩ := Option.map_eq_some_iff.1 hy
    exact .u _ _ (hj j q u hq hu)
  · exact h.inv_agg

/-- a part of a composite -/
theorem run_part {P : Program} {t : TypeId} {ti : TI} (ht : tiOf P t = some ti) {β : List Value} {Φ : Fz} {cs : List SV} {vs : List Value} (hl : vs.length = cs.length) (hj : ∀ (j : Nat) y (u : Value), cs[j]? = some y → vs[j]? = some u → V β Φ y u)
    {off : Nat} (h0 : 0 < ti.size) (hoff : off + ti.size ≤ cs.length) (w : World) : ∃ v, (part t vs.toArray off).run P w = .ok v w ∧ V β Φ (rdCells ti cs off) v := by
  unfold part rdCells
  simp only [Sem.run_bind, run_isAgg ht, Result.andThen_ok]
  cases hk : ti.kind.agg with
  | true =>
    simp only [if_true, Sem.run_bind, run_sizeOf ht, Result.andThen_ok, Sem.run_pure]
    refine ⟨_, rfl, ?_⟩
    have e : (vs.toArray.extract off (off + ti.size)) = ((vs.drop off).take ti.size).toArray := by
      simp [List.take_drop]
    rw [e]
    refine .agg _ _ (by simp; omega) fun j y u hy hu => ?_
    have hlt : j < ti.size := by have := (List.getElem?_eq_some_iff.1 hy).1; simp at this; omega
    rw [List.getElem?_take, if_pos hlt, List.getElem?_drop] at hy hu
    exact hj _ y u hy hu
  | false =>
    have hlt : off < vs.length := by omega
    have hcs : cs[off]? = some (cs[off]'(by omega)) := List.getElem?_eq_getElem (by omega)
    have hvs : vs[off]? = some vs[off] := List.getElem?_eq_getElem hlt
    refine ⟨vs[off], by simp [hlt], ?_⟩
    rw [List.getD_eq_getElem?_getD, hcs]
    exact hj off _ _ hcs hvs

def evField (P : Program) (t : TypeId) (f : Nat) (x : SV) : Ev :=
  match tiOf P t with
  | some ti => match ti.kind with
    | .struct fs => match fs[f]? with
      | some (off, ft) => match tiOf P ft with
        | some fti => .ok (isAggSV x = true ∧ 0 < fti.size ∧ off + fti.size ≤ x.cells.length) [] (rdCells fti x.cells off) []
        | none => .bad
      | none => .bad
    | _ => .bad
  | none => .bad

theorem op_field {P : Program} {o : Oper} {g : Operand → SV} {t : TypeId} {x : Operand} {f : Nat} (ho : o.op = .field t x f) {ob : Prop} {rd : List (Nat × SObj)} {r : SV} {wr : List (Nat × SObj)}
    (he : evField P t f (g x) = .ok ob rd r wr) (hob : ob) : OpR P o g rd r wr := by
  unfold evField at he
  split at he <;> try cases he
  rename_i ti ht
  split at he <;> try cases he
  rename_i fs hk
  split at he <;> try cases he
  rename_i off ft hf
  split at he <;> try cases he
  rename_i fti hft
  obtain ⟨h1, h2, h3⟩ := hob
  obtain ⟨F, hu, hF⟩ := struct_of ht hk
  rw [hF, List.getElem?_map] at hf
  obtain ⟨fd, hfd, hfe⟩ := Option.map_eq_some_iff.1 hf
  cases hfe
  have hfd' : F[f]? = some fd := by simpa using hfd
  refine OpR.pure fun β Φ ρ w hg => ?_
  obtain ⟨vs, hv, hl, hj⟩ := (hg x).agg_cells h1
  obtain ⟨v, hr, hv'⟩ := run_part hft hl hj h2 h3 w
  refine ⟨v, ?_, hv'⟩
  simp only [execOp, ho, Instr.field, hv, asAgg, Sem.run_bind, run_underlying hu, Result.andThen_ok, hfd', Sem.run_pure, hr]

/-! ### indexes -/
def evIndexAddr (P : Program) (σ : Nat → SObj) (t : TypeId) (x i : SV) : Ev :=
  match tiOf P t, i with
  | some ti, .u (.i _ n) => match ti.kind with
    | .slice e => match tiOf P e with
      | some eti => match x with
        | .u (.fz els _) => .ok ((0 ≤ n ∧ n < els.length) ∧ (els.getD n.toNat []).length = eti.size ∧ 0 < eti.size) [] (.u (.fp (els.getD n.toNat []))) []
        | .h m => match σ m with
          | .row T s els => .ok ((0 ≤ n ∧ n < els.length) ∧ s = eti.size ∧ 0 < eti.size) [(m, .row T s els)] (.rp m s n.toNat 0) []
          | _ => .bad
        | .sl m s lo hi => .ok ((0 ≤ n ∧ (lo : Int) + n < hi) ∧ s = eti.size ∧ 0 < eti.size) [] (.rp m s (lo + n.toNat) 0) []
        | _ => .bad
      | none => .bad
    | .arr len e => match tiOf P e with
      | some eti => match x with
        | .p m off => .ok (0 ≤ n ∧ n < len) [] (.p m (off + n.toNat * eti.size)) []
        | .u (.fp cs) => .ok (0 ≤ n ∧ n < len) [] (.u (.fp (cs.drop (n.toNat * eti.size)))) []
        | _ => .bad
      | none => .bad
    | _ => .bad
  | _, _ => .bad

theorem slice_of {P : Program} {t e : TypeId} {ti : TI} (h : tiOf P t = some ti) (hk : ti.kind = .slice e) : P.underlying t = some (.slice e) := by
  obtain ⟨i, d, z, _, h2, _, _, _, _, h7, _⟩ := tiOf_inv h
  rw [hk] at h7
  cases d <;> simp [tkOf] at h7
  subst h7; exact h2
theorem arr_of {P : Program} {t e n : TypeId} {ti : TI} (h : tiOf P t = some ti) (hk : ti.kind = .arr n e) : P.underlying t = some (.array n e) := by
  obtain ⟨i, d, z, _, h2, _, _, _, _, h7, _⟩ := tiOf_inv h
  rw [hk] at h7
  cases d <;> simp [tkOf] at h7
  obtain ⟨rfl, rfl⟩ := h7; exact h2
theorem int_of {P : Program} {t : TypeId} {k : IntKind} {ti : TI} (h : tiOf P t = some ti) (hk : ti.kind = .int k) : P.underlying t = some (.int k) := by
  obtain ⟨i, d, z, _, h2, _, _, _, _, h7, _⟩ := tiOf_inv h
  rw [hk] at h7
  cases d <;> simp [tkOf] at h7
  subst h7; exact h2
theorem bool_of {P : Program} {t : TypeId} {ti : TI} (h : tiOf P t = some ti) (hk : ti.kind = .bool) : P.underlying t = some .bool := by
  obtain ⟨i, d, z, _, h2, _, _, _, _, h7, _⟩ := tiOf_inv h
  rw [hk] at h7
  cases d <;> simp [tkOf] at h7
  exact h2
theorem str_of {P : Program} {t : TypeId} {ti : TI} (h : tiOf P t = some ti) (hk : ti.kind = .str) : P.underlying t = some .string := by
  obtain ⟨i, d, z, _, h2, _, _, _, _, h7, _⟩ := tiOf_inv h
  rw [hk] at h7
  cases d <;> simp [tkOf] at h7
  exact h2
theorem ptr_of {P : Program} {t e : TypeId} {ti : TI} (h : tiOf P t = some ti) (hk : ti.kind = .ptr e) : P.underlying t = some (.pointer e) := by
  obtain ⟨i, d, z, _, h2, _, _, _, _, h7, _⟩ := tiOf_inv h
  rw [hk] at h7
  cases d <;> simp [tkOf] at h7
  subst h7; exact h2
theorem map_of {P : Program} {t k e : TypeId} {ti : TI} (h : tiOf P t = some ti) (hk : ti.kind = .map k e) : P.underlying t = some (.map k e) := by
  obtain ⟨i, d, z, _, h2, _, _, _, _, h7, _⟩ := tiOf_inv h
  rw [hk] at h7
  cases d <;> simp [tkOf] at h7
  obtain ⟨rfl, rfl⟩ := h7; exact h2
theorem op_indexAddr {P : Program} {o : Oper} {g : Operand → SV} {t : TypeId} {x i : Operand} (ho : o.op = .indexAddr t x i) {σf : Nat → SObj} {ob : Prop} {rd : List (Nat × SObj)} {r : SV} {wr : List (Nat × SObj)}
    (he : evIndexAddr P σf t (g x) (g i) = .ok ob rd r wr) (hob : ob) : OpR P o g rd r wr := by
  unfold evIndexAddr at he
  split at he <;> try cases he
  rename_i ti k n ht hi
  split at he <;> try cases he
  · rename_i e hk
    have hu := slice_of ht hk
    split at he <;> try cases he
    rename_i eti hte
    have hex : ∀ (ρ : Operand → Value) (a : Addr) (len cap : Nat) (w : World), ρ x = .slice (some a) len cap → ρ i = .int k n → 0 ≤ n → n < len → (execOp ρ o).run P w = .ok (.value (.pointer (some (a.add (n.toNat * eti.size))))) w := by
      intro ρ a len cap w h1 h2 h3 h4
      simp [execOp, ho, Instr.indexAt, h1, h2, asIntOf, run_underlying hu, h3, h4, run_sizeOf hte]
    split at he
    · rename_i els c hx
      cases he
      obtain ⟨⟨h0, h1⟩, h2, h3⟩ := hob
      refine OpR.pure fun β Φ ρ w hg => ?_
      obtain ⟨sz, a, cap, f, hv, q1, q2, q3, q4, q5, q6, q7⟩ := (hx ▸ hg x : V β Φ (.u (.fz els c)) (ρ x)).inv_fz
      have hiv := (hi ▸ hg i : V β Φ (.u (.i k n)) (ρ i)).inv_i
      have hn : n.toNat < els.length := by omega
      obtain ⟨ad, rfl⟩ := Option.isSome_iff_exists.1 (q5 (by omega))
      have hel : els[n.toNat]? = some els[n.toNat] := List.getElem?_eq_getElem hn
      have hgd : els.getD n.toNat [] = els[n.toNat] := by rw [List.getD_eq_getElem?_getD, hel]; rfl
      rw [hgd] at h2 ⊢
      have hsz : sz = eti.size := by rw [← h2]; exact (q1 _ (List.getElem_mem hn)).symm
      subst hsz
      refine ⟨_, hex ρ ad _ cap w hv hiv h0 h1, .u _ _ (.fp _ _ (fun j => f n.toNat j) (fun j y hy => ?_) fun j y hy => ?_)⟩
      · rw [add_add]; exact q6 _ _ j y ad hel hy rfl
      · exact q7 _ _ j y hel hy
    · rename_i m hx
      split at he <;> try cases he
      rename_i T s els hσ
      obtain ⟨⟨h0, h1⟩, rfl, h3⟩ := hob
      refine OpR.read fun w0 ω0 β Φ ω σ w ρ hR hg hrd => ?_
      have hn : n.toNat < els.length := by omega
      obtain ⟨v, hβ, hO⟩ := hR.at_ (hrd m (.row T eti.size els) (by simp))
      rcases hO with ⟨_, _, rfl⟩ | ⟨b, cap, cs, rfl, _⟩
      · simp at hn
      have hiv := (hi ▸ hg i : V β Φ (.u (.i k n)) (ρ i)).inv_i
      have hv := ((hx ▸ hg x : V β Φ (.h m) (ρ x)).inv_h).1
      rw [hβ] at hv
      refine ⟨_, hex ρ _ _ cap w (Option.some.inj hv).symm hiv h0 h1, ?_⟩
      have := V.rp (Φ := Φ) m eti.size n.toNat 0 _ _ _ hβ
      simpa using this
    · rename_i m s lo top hx
      cases he
      obtain ⟨⟨h0, h1⟩, rfl, h3⟩ := hob
      refine OpR.pure fun β Φ ρ w hg => ?_
      obtain ⟨a, a', l, c, hβ, hv, q1, q2, q3⟩ := (hx ▸ hg x : V β Φ (.sl m eti.size lo top) (ρ x)).inv_sl
      have hiv := (hi ▸ hg i : V β Φ (.u (.i k n)) (ρ i)).inv_i
      refine ⟨_, hex ρ _ _ _ w hv hiv h0 (by omega), ?_⟩
      rw [q3 (by omega), add_add]
      have := V.rp (Φ := Φ) m eti.size (lo + n.toNat) 0 _ _ _ hβ
      rwa [Nat.add_zero, Nat.add_mul] at this
    · cases he
  · rename_i len e hk
    have hu := arr_of ht hk
    split at he <;> try cases he
    rename_i eti hte
    have hex : ∀ (ρ : Operand → Value) (a : Addr) (w : World), ρ x = .pointer (some a) → ρ i = .int k n → 0 ≤ n → n < len → (execOp ρ o).run P w = .ok (.value (.pointer (some (a.add (n.toNat * eti.size))))) w := by
      intro ρ a w h1 h2 h3 h4
      simp [execOp, ho, Instr.indexAt, h1, h2, asIntOf, run_underlying hu, h3, h4, run_sizeOf hte, Instr.sureAddr]
    split at he
    · rename_i m off hx
      cases he
      refine OpR.pure fun β Φ ρ w hg => ?_
      obtain ⟨a, ha, hv⟩ := (hx ▸ hg x : V β Φ (.p m off) (ρ x)).inv_p
      have hiv := (hi ▸ hg i : V β Φ (.u (.i k n)) (ρ i)).inv_i
      refine ⟨_, hex ρ _ w hv hiv hob.1 hob.2, ?_⟩
      rw [add_add]; exact .p m _ a ha
    · rename_i cs hx
      cases he
      refine OpR.pure fun β Φ ρ w hg => ?_
      obtain ⟨a, fv, hv, h1, h2⟩ := (hx ▸ hg x : V β Φ (.u (.fp cs)) (ρ x)).inv_fp
      have hiv := (hi ▸ hg i : V β Φ (.u (.i k n)) (ρ i)).inv_i
      refine ⟨_, hex ρ _ w hv hiv hob.1 hob.2, .u _ _ (.fp _ _ (fun j => fv (n.toNat * eti.size + j)) (fun j y hy => ?_) fun j y hy => ?_)⟩
      · rw [add_add]; exact h1 _ y (by rwa [List.getElem?_drop] at hy)
      · exact h2 _ y (by rwa [List.getElem?_drop] at hy)
    · cases he

/-- an element of a string, or of an array that is a value -/
def evIndex (P : Program) (t : TypeId) (x i : SV) : Ev :=
  match tiOf P t, i with
  | some ti, .u (.i _ n) => match ti.kind with
    | .str => match x with
      | .u (.s l) => .ok (0 ≤ n ∧ n < l.length) [] (.u (.i .u8 (l.getD n.toNat 0).toNat)) []
      | _ => .bad
    | .arr len e => match tiOf P e with
      | some eti => .ok (isAggSV x = true ∧ (0 ≤ n ∧ n < len) ∧ 0 < eti.size ∧ n.toNat * eti.size + eti.size ≤ x.cells.length) [] (rdCells eti x.cells (n.toNat * eti.size)) []
      | none => .bad
    | _ => .bad
  | _, _ => .bad

theorem op_index {P : Program} {o : Oper} {g : Operand → SV} {t : TypeId} {x i : Operand} (ho : o.op = .index t x i) {ob : Prop} {rd : List (Nat × SObj)} {r : SV} {wr : List (Nat × SObj)}
    (he : evIndex P t (g x) (g i) = .ok ob rd r wr) (hob : ob) : OpR P o g rd r wr := by
  unfold evIndex at he
  split at he <;> try cases he
  rename_i ti k n ht hi
  split at he <;> try cases he
  · rename_i hk
    have hu := str_of ht hk
    split at he <;> try cases he
    rename_i l hx
    obtain ⟨h0, h1⟩ := hob
    refine OpR.pure fun β Φ ρ w hg => ?_
    have hv := (hx ▸ hg x : V β Φ (.u (.s l)) (ρ x)).inv_s
    have hiv := (hi ▸ hg i : V β Φ (.u (.i k n)) (ρ i)).inv_i
    have hn : n.toNat < l.length := by omega
    refine ⟨_, ?_, V.mk_i _ _⟩
    have hb : (⟨l.toArray⟩ : ByteArray)[n.toNat]? = some (l[n.toNat]) := by
      rw [getElem?_pos (⟨l.toArray⟩ : ByteArray) n.toNat (by simpa [ByteArray.size] using hn)]
      rfl
    have hgd : l.getD n.toNat 0 = l[n.toNat] := by rw [List.getD_eq_getElem?_getD, List.getElem?_eq_getElem hn]; rfl
    rw [hgd]
    simp [execOp, ho, Instr.index, hv, hiv, asIntOf, run_underlying hu, h0, hb]
  · rename_i len e hk
    have hu := arr_of ht hk
    split at he <;> try cases he
    rename_i eti hte
    obtain ⟨h0, ⟨h1, h1'⟩, h2, h3⟩ := hob
    refine OpR.pure fun β Φ ρ w hg => ?_
    obtain ⟨vs, hv, hl, hj⟩ := (hg x).agg_cells h0
    have hiv := (hi ▸ hg i : V β Φ (.u (.i k n)) (ρ i)).inv_i
    obtain ⟨v, hr, hv'⟩ := run_part hte hl hj h2 h3 w
    refine ⟨v, ?_, hv'⟩
    simp [execOp, ho, Instr.index, hv, hiv, asIntOf, run_underlying hu, h1, h1', run_sizeOf hte, hr]

/-! ### nil checks -/
def evNil (x : SV) : Ev :=
  match x with
  | .p n o => .ok True [] (.p n o) []
  | .rp n s i o => .ok True [] (.rp n s i o) []
  | .u (.fp cs) => .ok True [] (.u (.fp cs)) []
  | .fn f cs => .ok True [] (.fn f cs) []
  | .u (.fn f cs) => .ok True [] (.u (.fn f cs)) []
  | _ => .bad

theorem op_nilCheck {P : Program} {o : Oper} {g : Operand → SV} {x : Operand} (ho : o.op = .nilCheck x) {ob : Prop} {rd : List (Nat × SObj)} {r : SV} {wr : List (Nat × SObj)}
    (he : evNil (g x) = .ok ob rd r wr) : OpR P o g rd r wr := by
  have key : ∀ y, g x = y → (∀ (β : List Value) (Φ : Fz) (v : Value) (w : World), V β Φ y v → (∃ a, v = .pointer (some a)) ∨ ∃ f cs, v = .func (.func f) #[] cs) → OpR P o g [] y [] := by
    intro y hy h
    refine OpR.pure fun β Φ ρ w hg => ?_
    have hv := hg x
    rw [hy] at hv
    refine ⟨ρ x, ?_, hv⟩
    rcases h β Φ (ρ x) w hv with ⟨a, ha⟩ | ⟨f, cs, ha⟩ <;> simp [execOp, ho, ha]
  unfold evNil at he
  split at he <;> cases he
  · rename_i hx; exact key _ hx fun β Φ v w h => .inl (by obtain ⟨a, _, rfl⟩ := h.inv_p; exact ⟨_, rfl⟩)
  · rename_i hx; exact key _ hx fun β Φ v w h => .inl (by obtain ⟨a, _, _, _, rfl⟩ := h.inv_rp; exact ⟨_, rfl⟩)
  · rename_i hx; exact key _ hx fun β Φ v w h => .inl (by obtain ⟨a, _, rfl, _⟩ := h.inv_fp; exact ⟨_, rfl⟩)
  · rename_i hx; exact key _ hx fun β Φ v w h => .inr (by obtain ⟨vs, rfl, _⟩ := h.inv_fn; exact ⟨_, _, rfl⟩)
  · rename_i hx; exact key _ hx fun β Φ v w h => .inr (by obtain ⟨vs, rfl, _⟩ := h.inv_ufn; exact ⟨_, _, rfl⟩)

/-! ### moves, parts of tuples, functions, maps -/
theorem op_move {P : Program} {o : Oper} {g : Operand → SV} {x : Operand} (ho : o.op = .move x ∨ o.op = .assign x) : OpR P o g [] (g x) [] := by
  refine OpR.pure fun β Φ ρ w hg => ⟨ρ x, ?_, hg x⟩
  rcases ho with ho | ho <;> simp [execOp, ho]

def SV.tupAt (x : SV) (i : Nat) : Option SV :=
  match x with
  | .tup vs => vs[i]?
  | .u (.tup vs) => (vs[i]?).map .u
  | _ => none

theorem op_extract {P : Program} {o : Oper} {g : Operand → SV} {x : Operand} {i : Nat} (ho : o.op = .extract x i) {r : SV} (he : (g x).tupAt i = some r) : OpR P o g [] r [] := by
  refine OpR.pure fun β Φ ρ w hg => ?_
  have hv := hg x
  unfold SV.tupAt at he
  split at he
  · rename_i vs hx
    rw [hx] at hv
    obtain ⟨us, hu, hl, hj⟩ := hv.inv_tup
    have hlt := (List.getElem?_eq_some_iff.1 he).1
    have hus : us[i]? = some (us[i]'(by omega)) := List.getElem?_eq_getElem (by omega)
    exact ⟨_, by simp [execOp, ho, Instr.extract, hu, hus], hj i r _ he hus⟩
  · rename_i vs hx
    rw [hx] at hv
    obtain ⟨y, hy, rfl⟩ := Option.map_eq_some_iff.1 he
    obtain ⟨us, hu, hl, hj⟩ := hv.inv_utup
    have hlt := (List.getElem?_eq_some_iff.1 hy).1
    have hus : us[i]? = some (us[i]'(by omega)) := List.getElem?_eq_getElem (by omega)
    exact ⟨_, by simp [execOp, ho, Instr.extract, hu, hus], .u _ _ (hj i y _ hy hus)⟩
  · cases he

theorem op_not {P : Program} {o : Oper} {g : Operand → SV} {t : TypeId} {x : Operand} {b : Bool} (ho : o.op = .unOp .not t x) (hx : g x = .u (.b b)) : OpR P o g [] (.u (.b (!b))) [] := by
  refine OpR.pure fun β Φ ρ w hg => ⟨_, ?_, V.mk_b _⟩
  have hv := (hx ▸ hg x : V β Φ (.u (.b b)) (ρ x)).inv_b
  simp [execOp, ho, hv, Op.unary]
end Go.Nm
