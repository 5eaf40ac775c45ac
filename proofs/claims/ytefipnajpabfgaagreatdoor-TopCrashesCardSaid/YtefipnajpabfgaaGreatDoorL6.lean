/- Part 6 of the proof: what functions of the program do, and plain facts on what they compute. -/
import Derived.Test.YtefipnajpabfgaaGreatDoorL5
import Derived.Deep.Slices
import Derived.Below
import Derived.Attr
import Derived.SizedLaws
set_option linter.all false
set_option maxRecDepth 40000
set_option maxHeartbeats 16000000
set_option linter.unusedSimpArgs false
set_option linter.unusedVariables false
/- What comes in, as values that nobody writes; a contract at the top. -/
namespace Go.Nm
open Go.ChangeShapes Go.WideShapes Go.Deep Go.RowKit

/-- all that stands at the start is never written -/
def fz0 (w : World) : Fz := fun b => w.heap[b]?

theorem fz0_cell {w : World} {a : Addr} {v : Value} (h : w.cell? a = some v) : (fz0 w).cell a = some v := h

def Opens {H : Type} (enc : TypeId × Value → H) (P : Program) (w : World) (base : Nat) (spare : Nat → Bool) (held : Bool) (t : TypeId) {X : Type} (f : X → List PV) (Q : X → Prop) : Prop :=
  ∀ (fuel : Nat) (cs : List Value) (x : DataW H × List MemPlace), DataW.trod enc P w base spare held fuel t cs = some x → ∃ y, Q y ∧ cs.length = (f y).length ∧ ∀ (j : Nat) p v, (f y)[j]? = some p → cs[j]? = some v → VP (fz0 w) p v

section
variable {H : Type} {enc : TypeId × Value → H} {P : Program} {w : World} {base : Nat} {spare : Nat → Bool} {held : Bool}

theorem opens_int {t : TypeId} {k : IntKind} (ht : P.underlying t = some (.int k)) : Opens enc P w base spare held t (fun n : Int => [.i k n]) fun n => (Lit.int k n).wf = true := by
  intro fuel cs x h
  obtain ⟨n, rfl, _, hw⟩ := DataW.trod_int ht h
  refine ⟨n, hw, rfl, fun j p v hp hv => ?_⟩
  cases j with
  | zero => simp at hp hv; subst hp hv; exact .i _ _
  | succ j => simp at hp

theorem opens_bool {t : TypeId} (ht : P.underlying t = some .bool) : Opens enc P w base spare held t (fun b : Bool => [.b b]) fun _ => True := by
  intro fuel cs x h
  obtain ⟨b, rfl, _⟩ := DataW.trod_bool ht h
  refine ⟨b, trivial, rfl, fun j p v hp hv => ?_⟩
  cases j with
  | zero => simp at hp hv; subst hp hv; exact .b _
  | succ j => simp at hp

theorem opens_string {t : TypeId} (ht : P.underlying t = some .string) : Opens enc P w base spare held t (fun l : List UInt8 => [.s l]) fun l => l.length ≤ maxLen := by
  intro fuel cs x h
  obtain ⟨s, rfl, _, hs⟩ := DataW.trod_string ht h
  refine ⟨s.data.toList, by simpa using hs, rfl, fun j p v hp hv => ?_⟩
  cases j with
  | zero =>
    simp at hp hv; subst hp hv
    have : Value.string s = .string ⟨s.data.toList.toArray⟩ := by simp
    rw [this]; exact .s _
  | succ j => simp at hp

theorem opens_slice {t e : TypeId} {sz : Nat} {X : Type} [Inhabited X] {f : X → List PV} {Q : X → Prop} (ht : P.underlying t = some (.slice e)) (hc : P.cellsOf e = sz) (he : Opens enc P w base spare held e f Q) :
    Opens enc P w base spare held t (fun xs : List X => [.fz (xs.map f) none]) fun xs => (∀ x ∈ xs, Q x) ∧ xs.length ≤ maxLen := by
  intro fuel cs x h
  rcases open_slice ht h with ⟨rfl, _⟩ | ⟨a, len, cap, m, n, D, Pl, rfl, hb, hl, hm, hmm, rfl, hx⟩
  · refine ⟨[], ⟨by simp, by simp⟩, rfl, fun j p v hp hv => ?_⟩
    cases j with
    | zero =>
      simp at hp hv; subst hp hv
      exact .fz 0 [] none none 0 (fun _ _ => .bool false) (by simp) (Nat.le_refl _) (Nat.zero_le _) (by simp) (by simp) (by simp) (by simp)
    | succ j => simp at hp
  · have hlm : len ≤ m := by rw [hmm]; split <;> omega
    obtain ⟨Y, hY⟩ := choose_lt (n := len) (p := fun i (y : X × List Value) => w.cells? base (a.add (i * P.cellsOf e)) (P.cellsOf e) = some y.2 ∧ Q y.1 ∧ y.2.length = (f y.1).length ∧ ∀ (j : Nat) p v, (f y.1)[j]? = some p → y.2[j]? = some v → VP (fz0 w) p v) (fun i hi => by
      obtain ⟨cs', h1, h2⟩ := hx i (by omega)
      obtain ⟨y, h3, h4, h5⟩ := he _ _ _ h2
      exact ⟨(y, cs'), h1, h3, h4, h5⟩)
    refine ⟨(List.range len).map fun i => (Y i).1, ⟨fun x hx => ?_, by simp; omega⟩, rfl, fun j p v hp hv => ?_⟩
    · obtain ⟨i, hi, rfl⟩ := List.mem_map.1 hx
      exact (hY i (List.mem_range.1 hi)).2.1
    cases j with
    | succ j => simp at hp
    | zero =>
      simp only [List.getElem?_cons_zero, Option.some.injEq] at hp hv
      subst hp hv
      have hlen : (((List.range len).map fun i => (Y i).1).map f).length = len := by simp
      have hget : ∀ (i : Nat) el, (((List.range len).map fun i => (Y i).1).map f)[i]? = some el → i < len ∧ el = f (Y i).1 := by
        intro i el h
        have hi := (List.getElem?_eq_some_iff.1 h).1
        rw [hlen] at hi
        simp [hi] at h
        exact ⟨hi, h.symm⟩
      have key := VP.fz (Φ := fz0 w) sz (((List.range len).map fun i => (Y i).1).map f) none (some a) cap (fun i j => (Y i).2.getD j (.bool false)) (fun el hel => ?_) (by rw [hlen]; exact hl) hm (by simp) (fun _ => rfl) (fun i el j x ad h1 h2 h3 => ?_) (fun i el j x h1 h2 => ?_)
      · rw [hlen] at key; exact key
      · obtain ⟨i, hi⟩ := List.getElem?_of_mem hel
        obtain ⟨h1, rfl⟩ := hget i _ hi
        obtain ⟨k1, _, k3, _⟩ := hY i h1
        have := (World.cells?_some k1).2.1
        omega
      · cases h3
        obtain ⟨hi, rfl⟩ := hget i _ h1
        obtain ⟨k1, _, k3, _⟩ := hY i hi
        have hj := (List.getElem?_eq_some_iff.1 h2).1
        have hcj : (Y i).2[j]? = some ((Y i).2.getD j (.bool false)) := by
          rw [List.getD_eq_getElem?_getD, List.getElem?_eq_getElem (by omega)]; rfl
        have hcell := (World.cells?_some k1).2.2
        refine fz0_cell ?_
        rw [← hc, ← add_add]
        first
          | exact hcell j _ hcj
          | (rw [hcell j (by have := (World.cells?_some k1).2.1; omega)]; exact hcj)
      · obtain ⟨hi, rfl⟩ := hget i _ h1
        obtain ⟨_, _, k3, k4⟩ := hY i hi
        have hj := (List.getElem?_eq_some_iff.1 h2).1
        exact k4 j x _ h2 (by rw [List.getD_eq_getElem?_getD, List.getElem?_eq_getElem (by omega)]; rfl)

def OpensF {H : Type} (enc : TypeId × Value → H) (P : Program) (w : World) (base : Nat) (spare : Nat → Bool) (held : Bool) (fs : List Field) (off : Nat) {X : Type} (f : X → List PV) (Q : X → Prop) : Prop :=
  ∀ cs : List Value, (∀ (i : Nat) fd, fs[i]? = some fd → ∃ n x, DataW.trod enc P w base spare held n fd.type ((cs.drop fd.offset).take (P.cellsOf fd.type)) = some x) →
    ∃ y, Q y ∧ ∀ (j : Nat) p v, (f y)[j]? = some p → cs[off + j]? = some v → VP (fz0 w) p v

theorem opensF_one {off : Nat} {fd : Field} {n : Nat} {X : Type} {f : X → List PV} {Q : X → Prop} (ho : fd.offset = off) (hn : P.cellsOf fd.type = n) (hf : ∀ y, (f y).length = n) (h : Opens enc P w base spare held fd.type f Q) : OpensF enc P w base spare held [fd] off f Q := by
  intro cs hall
  obtain ⟨k, x, hx⟩ := hall 0 fd rfl
  obtain ⟨y, hq, hl, hy⟩ := h _ _ _ hx
  refine ⟨y, hq, fun j p v hp hv => hy j p v hp ?_⟩
  have hj := (List.getElem?_eq_some_iff.1 hp).1
  rw [hf] at hj
  rw [hn, List.getElem?_take_of_lt hj, List.getElem?_drop, ho]; exact hv

theorem opensF_cons {off : Nat} {fd : Field} {n : Nat} {rest : List Field} {X X2 : Type} {f : X → List PV} {f2 : X2 → List PV} {Q : X → Prop} {Q2 : X2 → Prop} (ho : fd.offset = off) (hn : P.cellsOf fd.type = n) (hf : ∀ y, (f y).length = n) (h : Opens enc P w base spare held fd.type f Q)
    (h2 : OpensF enc P w base spare held rest (off + n) f2 Q2) : OpensF enc P w base spare held (fd :: rest) off (fun y : X × X2 => f y.1 ++ f2 y.2) fun y => Q y.1 ∧ Q2 y.2 := by
  intro cs hall
  obtain ⟨y, hq, hy⟩ := opensF_one (off := off) ho hn hf h cs (fun i fd' hi => by
    cases i with
    | zero => simp at hi; subst hi; exact hall 0 fd rfl
    | succ i => simp at hi)
  obtain ⟨y2, hq2, hy2⟩ := h2 cs fun i fd' hi => hall (i + 1) fd' (by simpa using hi)
  refine ⟨(y, y2), ⟨hq, hq2⟩, fun j p v hp hv => ?_⟩
  simp only at hp
  by_cases hj : j < (f y).length
  · rw [List.getElem?_append_left hj] at hp
    exact hy j p v hp hv
  · rw [List.getElem?_append_right (by omega)] at hp
    refine hy2 _ p v hp ?_
    rw [hf] at hj ⊢
    rw [show off + n + (j - n) = off + j by omega]; exact hv

theorem opens_struct {t : TypeId} {fs : Array Field} {n : Nat} {X : Type} {f : X → List PV} {Q : X → Prop} (ht : P.underlying t = some (.struct fs)) (hn : P.cellsOf t = n) (hf : ∀ y, (f y).length = n) (h : OpensF enc P w base spare held fs.toList 0 f Q) : Opens enc P w base spare held t f Q := by
  intro fuel cs x hx
  obtain ⟨xs, k, _, _, hl, hxl, hall⟩ := DataW.trod_struct ht hx
  obtain ⟨y, hq, hy⟩ := h cs fun i fd hi => by
    have hi' : fs[i]? = some fd := by simpa using hi
    have hlt := (Array.getElem?_eq_some_iff.1 hi').1
    have := hall i fd hi'
    rw [List.getElem?_eq_getElem (by omega)] at this
    exact ⟨k, _, this⟩
  exact ⟨y, hq, by rw [hl, hn, hf], fun j p v hp hv => hy j p v hp (by rw [Nat.zero_add]; exact hv)⟩

theorem Opens.map {t : TypeId} {X Y : Type} {f : X → List PV} {Q : X → Prop} (h : Opens enc P w base spare held t f Q) (g : X → Y) {f' : Y → List PV} {Q' : Y → Prop} (hf : ∀ x, f' (g x) = f x) (hQ : ∀ x, Q x → Q' (g x)) : Opens enc P w base spare held t f' Q' := by
  intro fuel cs x hx
  obtain ⟨y, h1, h2, h3⟩ := h fuel cs x hx
  exact ⟨g y, hQ y h1, by rw [hf]; exact h2, by rw [hf]; exact h3⟩

/-- one cell that came in -/
theorem Opens.one {t : TypeId} {X : Type} {f : X → PV} {Q : X → Prop} {v : Value} {d : DataW H} {ps : List MemPlace} (h : Opens enc P w base spare held t (fun x => [f x]) Q) (hd : DataW.Trod enc P w base spare held t v d ps) (hv : v.cells = #[v]) : ∃ y, Q y ∧ VP (fz0 w) (f y) v := by
  obtain ⟨fuel, hf⟩ := hd
  obtain ⟨y, h1, h2, h3⟩ := h _ _ _ hf
  exact ⟨y, h1, h3 0 _ _ rfl (by rw [hv]; rfl)⟩
end

/-- a contract at the top: nothing that was there is written -/
theorem calls_top {P : Program} {f : FuncId} {al : List SV} {r : PV} {rv : Value} {w : World} (hC : CallT P f al [] fun x σ => x = .u r ∧ σ = []) (args : List Value) (hl : args.length = al.length) (hr : ∀ Φ v, VP Φ r v → v = rv)
    (hv : ∀ (j : Nat) x v, al[j]? = some x → args[j]? = some v → V [] (fz0 w) x v) (hG : GOK (fz0 w)) : Calls P f args.toArray w fun e w' => e = .returned rv ∧ Below w.heap.size w w' := by
  have hR : Rep w (fun b => if b < w.heap.size then 1 else 0) [] [] (fz0 w) (fun b => if b < w.heap.size then 1 else 0) w := by
    refine ⟨rfl, rfl, rfl, Nat.le_refl _, fun b hb h0 => ?_, fun b o hb => ?_, fun b hb => ?_, rfl, fun n ob v hn _ => by simp at hn, hG⟩
    · simp [hb] at h0
    · have := (Array.getElem?_eq_some_iff.1 (show w.heap[b]? = some o from hb)).1
      exact ⟨by rw [if_pos this], hb⟩
    · by_cases h : b < w.heap.size
      · exact h
      · simp [h] at hb
  refine (hC w _ [] (fz0 w) _ w args hR hl hv).mono fun e w' ⟨x, v, β', σ', Φ', ω', he, _, hle, hvx, hR', _, hx, _⟩ => ?_
  subst hx
  cases hvx with | u _ _ hp =>
  refine ⟨by rw [he, hr _ _ hp], hR'.os, hR'.tape, hR'.output, hR'.size, fun k hk => ?_⟩
  have hb : (fz0 w) k = some w.heap[k] := Array.getElem?_eq_getElem hk
  rw [(hR'.fz k _ (hle k _ hb)).2]
  exact hb.symm
/-! what comes after an operation stands still until it is reached -/
def gdB (c : Bool) (p q : Prop) : Prop := (c = true → p) ∧ (c = false → q)
theorem gdB_true (p q : Prop) : gdB true p q = p := propext ⟨fun h => h.1 rfl, fun h => ⟨fun _ => h, fun h => by cases h⟩⟩
theorem gdB_false (p q : Prop) : gdB false p q = q := propext ⟨fun h => h.2 rfl, fun h => ⟨fun h => by (cases h), fun _ => h⟩⟩
def orB (c : Bool) (p q : Prop) : Prop := (c = true ∧ p) ∨ (c = false ∧ q)
theorem orB_true (p q : Prop) : orB true p q = p := propext ⟨fun h => h.elim (fun h => h.2) fun h => by (cases h.1), fun h => .inl ⟨rfl, h⟩⟩
theorem orB_false (p q : Prop) : orB false p q = q := propext ⟨fun h => h.elim (fun h => by (cases h.1)) fun h => h.2, fun h => .inr ⟨rfl, h⟩⟩
def kOps (P : Program) (sl : Nat → Option Nat) (os : List Oper) (N : Nat) (K : Env → List SObj → Prop) : Env → List SObj → Prop := fun e σ => evOps P sl os e σ N K
theorem kOps_app (P : Program) (sl : Nat → Option Nat) (os : List Oper) (N : Nat) (K : Env → List SObj → Prop) (e : Env) (σ : List SObj) : kOps P sl os N K e σ = evOps P sl os e σ N K := rfl
def kPut (K : Env → List SObj → Prop) (e : Env) (d : Option Nat) : SV → List SObj → Prop := fun r σ => K (e.put d r) σ
theorem kPut_app (K : Env → List SObj → Prop) (e : Env) (d : Option Nat) (r : SV) (σ : List SObj) : kPut K e d r σ = K (e.put d r) σ := rfl

theorem evOps_nil (P : Program) (sl : Nat → Option Nat) (e : Env) (σ : List SObj) (N : Nat) (K : Env → List SObj → Prop) : evOps P sl [] e σ N K = K e σ := rfl
theorem evOps_cons (P : Program) (sl : Nat → Option Nat) (o : Oper) (os : List Oper) (e : Env) (σ : List SObj) (N : Nat) (K : Env → List SObj → Prop) :
    evOps P sl (o :: os) e σ N K = evStep P sl o e σ N (kOps P sl os (if usesN o.op then N + 1 else N) K) := rfl
theorem evStep_eq (P : Program) (sl : Nat → Option Nat) (o : Oper) (e : Env) (σ : List SObj) (N : Nat) (K : Env → List SObj → Prop) : evStep P sl o e σ N K =
  match o.guard with
  | none => match callOf o (opnd e) with
    | some (f, as) => enterable P f = true ∧ CallT P f as σ (kPut K e o.dst)
    | none => match evOp P (fun n => σ.getD n .dead) N o (opnd e) with
      | .bad => False
      | .ok ob rd r wr => (ob ∧ rdOK σ rd) ∧ K (e.put o.dst r) (setAll σ wr)
  | some (j, want) => match sl j with
    | none => False
    | some s => match gdOf (e.get s) s want with
      | none => False
      | some (key, c) => match callOf o (fun x => strip key (opnd e x)) with
        | some (f, as) => gdB c (gdObs key c (opnd e) o.op.operands.toList ∧ enterable P f = true ∧ CallT P f as σ (kPut K e o.dst)) (K (e.put o.dst (.gd key false (zsv P o.type))) σ)
        | none => match evOp P (fun n => σ.getD n .dead) N o (fun x => strip key (opnd e x)) with
          | .bad => c = false ∧ K (e.put o.dst (.gd key false (zsv P o.type))) σ
          | .ok ob rd r [] => (c = true → gdObs key c (opnd e) o.op.operands.toList ∧ ob ∧ rdOK σ rd) ∧ K (e.put o.dst (.gd key c r)) σ
          | .ok ob rd r wr => gdB c (gdObs key c (opnd e) o.op.operands.toList ∧ (ob ∧ rdOK σ rd) ∧ K (e.put o.dst r) (setAll σ wr)) (K (e.put o.dst (.gd key false (zsv P o.type))) σ) := rfl

def kDraw (P : Program) (sl : Nat → Option Nat) (masks : List Nat) (os : List Oper) (j : Nat) (e : Env) (d : Option Nat) (σ : List SObj) (N : Nat) (acc : List (List Nat × List Nat)) (K : Env → List SObj → Prop) : List (Nat × SObj) → SV → List (Nat × SObj) → Prop := fun rd r wr =>
  chkN (masks.getD j 0) 0 acc (rd.map (·.1)) (wr.map (·.1)) = true ∧ evDraw P sl masks os (j + 1) (e.put d r) (setAll σ wr) N (acc ++ [(rd.map (·.1), wr.map (·.1))]) K
theorem kDraw_app (P : Program) (sl : Nat → Option Nat) (masks : List Nat) (os : List Oper) (j : Nat) (e : Env) (d : Option Nat) (σ : List SObj) (N : Nat) (acc : List (List Nat × List Nat)) (K : Env → List SObj → Prop) (rd : List (Nat × SObj)) (r : SV) (wr : List (Nat × SObj)) :
    kDraw P sl masks os j e d σ N acc K rd r wr = (chkN (masks.getD j 0) 0 acc (rd.map (·.1)) (wr.map (·.1)) = true ∧ evDraw P sl masks os (j + 1) (e.put d r) (setAll σ wr) N (acc ++ [(rd.map (·.1), wr.map (·.1))]) K) := rfl
def kGd (K : List (Nat × SObj) → SV → List (Nat × SObj) → Prop) (key : List (Nat × Bool)) (c : Bool) : List (Nat × SObj) → SV → Prop := fun rd r => K rd (.gd key c r) []
theorem kGd_app (K : List (Nat × SObj) → SV → List (Nat × SObj) → Prop) (key : List (Nat × Bool)) (c : Bool) (rd : List (Nat × SObj)) (r : SV) : kGd K key c rd r = K rd (.gd key c r) [] := rfl
theorem evDraw_nil (P : Program) (sl : Nat → Option Nat) (masks : List Nat) (j : Nat) (e : Env) (σ : List SObj) (N : Nat) (acc : List (List Nat × List Nat)) (K : Env → List SObj → Prop) : evDraw P sl masks [] j e σ N acc K = K e σ := rfl
theorem evDraw_cons (P : Program) (sl : Nat → Option Nat) (masks : List Nat) (o : Oper) (os : List Oper) (j : Nat) (e : Env) (σ : List SObj) (N : Nat) (acc : List (List Nat × List Nat)) (K : Env → List SObj → Prop) :
    evDraw P sl masks (o :: os) j e σ N acc K = evDStep P sl o e σ N (kDraw P sl masks os j e o.dst σ (if usesN o.op then N + 1 else N) acc K) := rfl
theorem evDStep_eq (P : Program) (sl : Nat → Option Nat) (o : Oper) (e : Env) (σ : List SObj) (N : Nat) (K : List (Nat × SObj) → SV → List (Nat × SObj) → Prop) : evDStep P sl o e σ N K =
  match o.guard with
  | none => match callOf o (opnd e) with
    | some (f, as) => enterable P f = true ∧ CallE P f as σ K
    | none => match evOp P (fun n => σ.getD n .dead) N o (opnd e) with
      | .bad => False
      | .ok ob rd r wr => (ob ∧ rdOK σ rd) ∧ K rd r wr
  | some (j, want) => match sl j with
    | none => False
    | some s => match gdOf (e.get s) s want with
      | none => False
      | some (key, c) => match callOf o (fun x => strip key (opnd e x)) with
        | some (f, as) => CallG P c f as (gdObs key c (opnd e) o.op.operands.toList) σ (kGd K key c)
        | none => match evOp P (fun n => σ.getD n .dead) N o (fun x => strip key (opnd e x)) with
          | .bad => c = false ∧ K [] (.gd key false (zsv P o.type)) []
          | .ok ob rd r [] => (c = true → gdObs key c (opnd e) o.op.operands.toList ∧ ob ∧ rdOK σ rd) ∧ K rd (.gd key c r) []
          | .ok ob rd r wr => orB c ((gdObs key c (opnd e) o.op.operands.toList ∧ (ob ∧ rdOK σ rd)) ∧ K rd r wr) (K [] .j []) := by
  unfold evDStep orB
  rfl

theorem beq_ft : (false == true) = false := rfl
theorem beq_tf : (true == false) = false := rfl
attribute [go_sem] beq_ft beq_tf
attribute [go_sem] retSV SV.mv mvs subL SObj.mv posOf back
attribute [go_sem ↓] evStep_eq evOp evDraw_nil evDraw_cons evDStep_eq kPut_app kDraw_app kGd_app gdB_true gdB_false orB_true orB_false
attribute [go_sem] zsv callOf opnd cst pv1 Env.get Env.put enterEnv SV.cells List.all_cons List.all_nil SV.one Bool.and_true Bool.true_and and_true true_and rdOK usesN setAll List.length_nil List.replicate List.nil_append
  List.cons_append List.getElem?_cons_zero List.getElem?_cons_succ List.set evFieldAddr Nat.lt_add_one Nat.zero_add Nat.add_zero evLoad evStore rdCells wrCells Nat.zero_lt_one List.length_cons TK.agg
  evBin slotOf List.getElem?_toArray Option.bind_some gdOf strip isSuf sameK gdObs gdOb Op.operands evLen evPick List.getD_cons_zero List.getD_cons_succ List.append_nil Bool.false_eq_true List.take_zero
  List.take_succ_cons List.drop_zero List.drop_succ_cons List.take_nil List.drop_nil List.map_cons List.map_nil beq_iff_eq beq_eq_false_iff_ne Bool.cond_true_left Bool.cond_false_right
  Bool.cond_true_right Bool.cond_false_left imp_self implies_true forall_const Bool.or_eq_false_iff Bool.and_eq_true Call.operands Array.toList_append Array.toList_map List.append_assoc
  List.zip_nil_left List.zip_cons_cons Int.toNat_natCast List.length_map Option.getD_some Option.getD_none decide_eq_true_eq decide_eq_false_iff_not evIndexAddr evIndex evSlice evConvert evMapUpdate
  evLookup evBuild evBuildSlice evNil evField evFunc evAppend evMax evMin evXor evMakeSlice evDelete evMapUpdateF evRange evEntry Glob evClear srcObs Nat.sub_zero bndSV natSV pvOf pures SV.pure? purEls idxOK fillSV srcOf isNilPV eqCells SV.tupAt keyKind isU8 PV.one isAggSV List.mem_cons
  List.not_mem_nil or_false forall_eq_or_imp forall_eq ne_eq not_false_eq_true zeroPV List.headD_cons Array.toList_empty Option.map_some Option.map_none beq_self_eq_true bne_self_eq_false Bool.not_false Bool.not_true
  Bool.and_self Bool.or_true Bool.or_false Bool.true_or Bool.false_or Bool.and_false Bool.false_and decide_true decide_false true_implies false_implies Bool.true_eq_false eq_self

def mvβ2 (n0 : Nat) (src : List (Option Nat)) (β : List Value) : List Value := (List.range src.length).map fun m => if m < n0 then β.getD m (.bool false) else (mvβ src β).getD m (.bool false)

def keepsS2 (n0 : Nat) (src : List (Option Nat)) : Prop := n0 ≤ src.length ∧ ∀ m n : Nat, m < n0 → src[m]? = some (some n) → n = m

theorem mvβ2_get {n0 : Nat} {src : List (Option Nat)} {β : List Value} {m n : Nat} {v : Value} (hk : keepsS2 n0 src) (h : src[m]? = some (some n)) (hv : β[n]? = some v) : (mvβ2 n0 src β)[m]? = some v := by
  have hlt : m < src.length := (List.getElem?_eq_some_iff.1 h).1
  unfold mvβ2
  rw [List.getElem?_map, List.getElem?_range hlt]
  simp only [Option.map_some]
  by_cases hm : m < n0
  · rw [if_pos hm]
    have := hk.2 m n hm h
    subst this
    rw [List.getD_eq_getElem?_getD, hv]; rfl
  · rw [if_neg hm, List.getD_eq_getElem?_getD, mvβ_get h hv]; rfl

theorem Rep.mv2 {w0 : World} {ω0 : Nat → Nat} {β : List Value} {σ : List SObj} {Φ : Fz} {ω : Nat → Nat} {w : World} (h : Rep w0 ω0 β σ Φ ω w) (n0 : Nat) (src : List (Option Nat)) (hd : distinctS src = true) (hk : keepsS2 n0 src) :
    ∃ ω', Rep w0 ω0 (mvβ2 n0 src β) (mvs src σ) Φ ω' w := by
  let f : Nat → Nat := fun k => match k with
    | 0 => 0
    | 1 => 1
    | n + 2 => match posOf n src with | some m => m + 2 | none => 0
  refine ⟨fun b => f (ω b), h.os, h.tape, h.output, h.size, fun b hb h0 => ?_, fun b o hb => ?_, fun b hb => ?_, by simp [mvβ2, mvs], fun m ob v hm hv => ?_, h.gl⟩
  · obtain ⟨h1, h2⟩ := h.frame b hb h0
    exact ⟨h1, by simp only [h2]; rfl⟩
  · obtain ⟨h1, h2⟩ := h.fz b o hb
    exact ⟨by simp only [h1]; rfl, h2⟩
  · refine h.lt b fun e => hb ?_
    simp only [e]; rfl
  · rcases mvs_get hm with ⟨n, hn, rfl⟩ | rfl
    · rw [List.getD_eq_getElem?_getD]
      cases hσ : σ[n]? with
      | none => trivial
      | some ob =>
        obtain ⟨v', hv', hO⟩ := h.at_ hσ
        have := mvβ2_get hk hn hv'
        rw [hv] at this
        cases this
        exact hO.mv (fun n m v hp hv _ => mvβ2_get hk (posOf_some hp) hv) fun b hb => by simp only [hb, f, posOf_at hd hn]
    · trivial

theorem BExt.mvβ2 {β0 β : List Value} {src : List (Option Nat)} (h : BExt β0 β) (hk : keepsS2 β0.length src) : BExt β0 (mvβ2 β0.length src β) := fun n v hn hr => by
  have hlt : n < β0.length := (List.getElem?_eq_some_iff.1 hn).1
  have := h n v hn hr
  unfold Nm.mvβ2
  rw [List.getElem?_map, List.getElem?_range (Nat.lt_of_lt_of_le hlt hk.1)]
  simp only [Option.map_some]
  rw [if_pos hlt, List.getD_eq_getElem?_getD, this]; rfl

theorem ent_mv2 {c : Cx} {e e' : Env} {σ : List SObj} (src : List (Option Nat)) (hd : distinctS src = true) (hk : keepsS2 c.β0.length src) (hs : subE e' (mvE src e)) : Ent c e σ e' (mvs src σ) := by
  rintro a w ⟨β, Φ, ω, h1, h2, h3, h4, h5, h6⟩
  obtain ⟨ω', hR⟩ := h6.mv2 c.β0.length src hd hk
  refine ⟨_, Φ, ω', h1.mvβ2 hk, h2, h3, h4, fun t => ?_, hR⟩
  rcases hs t with h | h
  · rw [h]; exact .j _
  · rw [h, mvE_get]
    exact (h5 t).mv fun n m v hp hv _ => mvβ2_get hk (posOf_some hp) hv

def keepsB2 : Nat → Nat → List (Option Nat) → Bool
  | _, 0, _ => true
  | k, n + 1, some m :: r => decide (m = k) && keepsB2 (k + 1) n r
  | k, n + 1, none :: r => keepsB2 (k + 1) n r
  | _, _ + 1, [] => false

theorem keepsB2_ok : ∀ {n k : Nat} {src : List (Option Nat)}, keepsB2 k n src = true → n ≤ src.length ∧ ∀ j m : Nat, j < n → src[j]? = some (some m) → m = k + j
  | 0, k, src, _ => ⟨Nat.zero_le _, fun j m hj => by omega⟩
  | n + 1, k, some x :: r, h => by
    simp only [keepsB2, Bool.and_eq_true, decide_eq_true_eq] at h
    obtain ⟨rfl, h2⟩ := h
    obtain ⟨i1, i2⟩ := keepsB2_ok h2
    refine ⟨by simp; omega, fun j m hj hm => ?_⟩
    cases j with
    | zero => simp at hm; omega
    | succ j => have := i2 j m (by omega) (by simpa using hm); omega
  | n + 1, k, none :: r, h => by
    simp only [keepsB2] at h
    obtain ⟨i1, i2⟩ := keepsB2_ok h
    refine ⟨by simp; omega, fun j m hj hm => ?_⟩
    cases j with
    | zero => simp at hm
    | succ j => have := i2 j m (by omega) (by simpa using hm); omega
  | n + 1, k, [], h => by simp [keepsB2] at h

theorem entL2 {c : Cx} {e e' : Env} {σ σ' : List SObj} {n0 : Nat} (hc : c.β0.length = n0) (src : List (Option Nat)) (hd : distinctS src = true) (hk : keepsB2 0 n0 src = true) (hs : subL (fun k => posOf k src) e e') (hσ : mvs src σ = σ') : Ent c e σ e' σ' := by
  subst hσ
  obtain ⟨h1, h2⟩ := keepsB2_ok hk
  refine ent_mv2 src hd ⟨by omega, fun m n hm hn => ?_⟩ (subL_ok hs)
  have := h2 m n (by omega) hn
  omega

/-- a nil slice that stands in a cell is a row that may grow -/
theorem ent_thawC {c : Cx} {e : Env} {σ : List SObj} (n k : Nat) (T : TypeId) (sz : Nat) {vs : List SV} (hσ : σ[n]? = some (.cells vs)) (hk : vs[k]? = some (.u (.fz [] (some 0)))) :
    Ent c e σ e (σ.set n (.cells (vs.set k (.h σ.length))) ++ [.row T sz []]) := by
  rintro a w ⟨β, Φ, ω, h1, h2, h3, h4, h5, h6⟩
  obtain ⟨v, hv, hO⟩ := h6.at_ hσ
  obtain ⟨b, cs, Tt, rfl, hw, hc, hs, hj⟩ := hO
  have hkl : k < cs.size := by rw [hs]; exact (List.getElem?_eq_some_iff.1 hk).1
  have hu := hj k _ cs[k] hk (Array.getElem?_eq_getElem hkl)
  obtain ⟨ad, hval⟩ : ∃ ad, cs[k] = .slice ad 0 0 := by
    generalize cs[k] = u at hu
    cases hu with | u _ _ hv =>
    cases hv with | fz sz' elems c' ad cap f _ hl _ hc _ _ _ =>
    have hc0 : 0 = cap := hc 0 rfl
    subst hc0
    exact ⟨ad, rfl⟩
  have hlen := h6.len
  have hnl : n < σ.length := (List.getElem?_eq_some_iff.1 hσ).1
  refine ⟨β ++ [cs[k]], Φ, ω, h1.trans (BExt.append _ _), h2, h3, h4, fun t => (h5 t).mono (BExt.append _ _) (Fz.le_refl _), ⟨h6.os, h6.tape, h6.output, h6.size, h6.frame, h6.fz, h6.lt, by simp [hlen], fun m ob v hm hv' => ?_, h6.gl⟩⟩
  by_cases hlt : m < σ.length
  · rw [List.getElem?_append_left (by simpa using hlt)] at hm
    rw [List.getElem?_append_left (by omega)] at hv'
    by_cases he : m = n
    · subst he
      rw [List.getElem?_set_self hlt] at hm
      cases hm
      rw [hv] at hv'
      cases hv'
      refine ⟨b, cs, Tt, rfl, hw, hc, by simpa using hs, fun j x u hx hu' => ?_⟩
      by_cases hjk : j = k
      · subst hjk
        rw [List.getElem?_set_self (by rw [← hs]; exact hkl)] at hx
        cases hx
        rw [Array.getElem?_eq_getElem hkl] at hu'
        cases hu'
        refine .h _ _ (by rw [← hlen]; simp) ?_
        rw [hval]; rfl
      · rw [List.getElem?_set_ne (fun h => hjk h.symm)] at hx
        exact (hj j x u hx hu').mono (BExt.append _ _) (Fz.le_refl _)
    · rw [List.getElem?_set_ne (fun h => he h.symm)] at hm
      exact (h6.obj m ob v hm hv').mono (BExt.append _ _) (Fz.le_refl _) fun b hb => ⟨hb, rfl⟩
  · rw [List.getElem?_append_right (by simp; omega)] at hm
    rw [List.getElem?_append_right (by omega)] at hv'
    have h0 : m - σ.length = 0 := by
      cases hk' : m - σ.length with
      | zero => rfl
      | succ k' => rw [List.length_set, hk'] at hm; simp at hm
    rw [List.length_set, h0] at hm
    rw [show m - β.length = 0 by omega] at hv'
    simp at hm hv'
    subst hm hv'
    exact .inl ⟨ad, hval, rfl⟩

theorem setAll_id : ∀ {l : List (Nat × SObj)} {σ : List SObj}, rdOK σ l → setAll σ l = σ
  | [], _, _ => rfl
  | (n, ob) :: l, σ, h => by
    have : σ.set n ob = σ := by
      obtain ⟨hlt, he⟩ := List.getElem?_eq_some_iff.1 h.1
      rw [← he]; exact List.set_getElem_self hlt
    simp only [setAll, this]
    exact setAll_id h.2

theorem callD_id {P : Program} {f : FuncId} {al : List SV} {σl τ : List SObj} {R : SV} (θ : List Nat) (obs : List SObj) {args : List SV} {R' : SV} (hC : CallT P f al σl fun r σ' => r = R ∧ σ' = τ)
    (hd : distinctS (θ.map some) = true) (ho : obs.length = θ.length) (ha : args.map (SV.mv fun k => posOf k (θ.map some)) = al) (hσ : obs.map (SObj.mv fun k => posOf k (θ.map some)) = σl) (hτ : τ.length = θ.length)
    (hR : ∀ N, R.mv (back θ N) = R') (hS : ∀ N, τ.map (SObj.mv (back θ N)) = obs) : CallD P f args (θ.zip obs) R' [] := fun σ hrd => by
  refine (callD_of θ obs hC hd ho hτ ha hσ hR hS σ hrd).mono fun r σ' ⟨h1, h2⟩ => ⟨h1, ?_⟩
  rw [h2, setAll_id hrd]; rfl

/-- a guarded call that leaves memory as it is -/
theorem callG_at {P : Program} {c : Bool} {f : FuncId} {al : List SV} {σl τ : List SObj} {R : SV} {args : List SV} {R' : SV} {ob : Prop} {σ : List SObj} {K : List (Nat × SObj) → SV → Prop} (θ : List Nat) (obs : List SObj) (hob : c = true → ob) (hen : enterable P f = true) (hC : CallT P f al σl fun r σ' => r = R ∧ σ' = τ)
    (hd : distinctS (θ.map some) = true) (ho : obs.length = θ.length) (hrd : rdOK σ (θ.zip obs)) (ha : args.map (SV.mv fun k => posOf k (θ.map some)) = al) (hσ : obs.map (SObj.mv fun k => posOf k (θ.map some)) = σl) (hτ : τ.length = θ.length)
    (hR : ∀ N, R.mv (back θ N) = R') (hS : ∀ N, τ.map (SObj.mv (back θ N)) = obs) (hK : K (θ.zip obs) R') : CallG P c f args ob σ K :=
  ⟨_, _, fun hc => ⟨hob hc, hen, callD_id θ obs hC hd ho ha hσ hτ hR hS, hrd⟩, hK⟩


def SV.frz (n sz : Nat) (els : List (List PV)) : SV → SV
  | .u x => .u x
  | .p m off => .p m off
  | .rp m s i off => if m = n then .j else .rp m s i off
  | .sl m s lo hi => if m = n then (if s = sz ∧ hi ≤ els.length then .u (.fz ((els.drop lo).take (hi - lo)) none) else .j) else .sl m s lo hi
  | .h m => if m = n then .u (.fz els none) else .h m
  | .fn f caps => .fn f (caps.map (SV.frz n sz els))
  | .bm f caps => .bm f (caps.map (SV.frz n sz els))
  | .agg cs => .agg (cs.map (SV.frz n sz els))
  | .tup cs => .tup (cs.map (SV.frz n sz els))
  | .gd k c x => .gd k c (SV.frz n sz els x)
  | .j => .j

def SObj.frz (n sz : Nat) (els : List (List PV)) : SObj → SObj
  | .cells vs => .cells (vs.map (SV.frz n sz els))
  | .row e s l => .row e s l
  | .buf e s es => .buf e s es
  | .map es => .map es
  | .iter m es left cur => .iter m es left cur
  | .dead => .dead
  | .unborn => .unborn

theorem V.frz {β : List Value} {Φ Φ' : Fz} (hle : Φ.le Φ') {n sz : Nat} {els : List (List PV)} (hn : ∀ v, β[n]? = some v → VP Φ' (.fz els none) v) (hes : ∀ e ∈ els, e.length = sz) {x : SV} {v : Value} (h : V β Φ x v) : V β Φ' (x.frz n sz els) v := by
  induction h with
  | u x v h => rw [SV.frz]; exact .u x v (h.mono hle)
  | p m off a h => rw [SV.frz]; exact .p m off a h
  | rp m sz i off a l c h =>
    rw [SV.frz]
    split
    · exact .j _
    · exact .rp m sz i off a l c h
  | sl m s lo hi a a' l c h h1 h2 ha =>
    rw [SV.frz]
    split
    · rename_i e; subst e
      split
      · rename_i hc
        obtain ⟨rfl, htop⟩ := hc
        have hlen : ((els.drop lo).take (hi - lo)).length = hi - lo := by simp; omega
        obtain ⟨sz', aa, cap, f, hv, q1, q2, q3, q4, q5, q6, q7⟩ := (V.u (β := β) _ _ (hn _ h)).inv_fz
        cases hv
        have hget : ∀ (i : Nat) e, ((els.drop lo).take (hi - lo))[i]? = some e → els[lo + i]? = some e ∧ lo + i < hi := by
          intro i e he
          have hi' := (List.getElem?_eq_some_iff.1 he).1
          rw [hlen] at hi'
          rw [List.getElem?_take, if_pos hi', List.getElem?_drop] at he
          exact ⟨he, by omega⟩
        have key := VP.fz (Φ := Φ') s ((els.drop lo).take (hi - lo)) none (some a') (c - lo) (fun i j => f (lo + i) j) (fun e he => hes e (List.mem_of_mem_drop (List.mem_of_mem_take he))) (by omega) (by omega) (by simp) (fun _ => rfl) (fun i e j x ad h3 h4 h5 => by
          cases h5
          obtain ⟨k1, k2⟩ := hget i e h3
          have hsz : sz' = s := by rw [← q1 e (List.mem_of_getElem? k1), hes e (List.mem_of_getElem? k1)]
          subst hsz
          rw [ha (by omega), add_add, show lo * sz' + (i * sz' + j) = (lo + i) * sz' + j by rw [Nat.add_mul]; omega]
          exact q6 (lo + i) e j x a k1 h4 rfl) (fun i e j x h3 h4 => q7 _ e j x (hget i e h3).1 h4)
        rw [hlen] at key
        exact .u _ _ key
      · exact .j _
    · exact .sl m s lo hi a a' l c h h1 h2 ha
  | h m v h hr =>
    rw [SV.frz]
    split
    · rename_i e; subst e; exact .u _ _ (hn v h)
    · exact .h m v h hr
  | fn f caps vs hl _ ih =>
    rw [SV.frz]
    refine .fn f _ vs (by simpa using hl) fun j x v hx hv => ?_
    rw [List.getElem?_map] at hx
    obtain ⟨y, hy, rfl⟩ := Option.map_eq_some_iff.1 hx
    exact ih j y v hy hv
  | bm f caps vs hl _ ih =>
    rw [SV.frz]
    refine .bm f _ vs (by simpa using hl) fun j x v hx hv => ?_
    rw [List.getElem?_map] at hx
    obtain ⟨y, hy, rfl⟩ := Option.map_eq_some_iff.1 hx
    exact ih j y v hy hv
  | agg cs vs hl _ ih =>
    rw [SV.frz]
    refine .agg _ vs (by simpa using hl) fun j x v hx hv => ?_
    rw [List.getElem?_map] at hx
    obtain ⟨y, hy, rfl⟩ := Option.map_eq_some_iff.1 hx
    exact ih j y v hy hv
  | tup cs vs hl _ ih =>
    rw [SV.frz]
    refine .tup _ vs (by simpa using hl) fun j x v hx hv => ?_
    rw [List.getElem?_map] at hx
    obtain ⟨y, hy, rfl⟩ := Option.map_eq_some_iff.1 hx
    exact ih j y v hy hv
  | gd k c x v _ h0 ih => rw [SV.frz]; exact .gd k c _ v ih h0
  | j v => rw [SV.frz]; exact .j v

/-- an environment, written out, in which a row has become a value -/
def subF (n sz : Nat) (els : List (List PV)) (e : Env) : Env → Prop
  | [] => True
  | (d, x) :: r => (e.get d).frz n sz els = x ∧ subF n sz els e r

theorem subF_ok {n sz : Nat} {els : List (List PV)} {e : Env} : ∀ {e' : Env}, subF n sz els e e' → ∀ t, e'.get t = .j ∨ e'.get t = (e.get t).frz n sz els
  | [], _, t => .inl rfl
  | (d, x) :: r, h, t => by
    simp only [Env.get]
    by_cases hd : d = t
    · subst hd; rw [if_pos rfl]; exact .inr h.1.symm
    · rw [if_neg hd]; exact subF_ok h.2 t

theorem entF {c : Cx} {e e' : Env} {σ σ' : List SObj} (n : Nat) {T : TypeId} {sz : Nat} {els : List (List PV)} (hσ : σ[n]? = some (.row T sz els)) (hs : subF n sz els e e') (hσ' : (σ.set n .dead).map (SObj.frz n sz els) = σ') : Ent c e σ e' σ' := by
  subst hσ'
  rintro a w ⟨β, Φ, ω, h1, h2, h3, h4, h5, h6⟩
  obtain ⟨v, hv, hO⟩ := h6.at_ hσ
  have key : ∀ (Φ' : Fz) (ω' : Nat → Nat), Φ.le Φ' → (∀ b o, Φ' b = some o → ω' b = 1 ∧ w.heap[b]? = some o) → (∀ b, ω b ≠ n + 2 → ω' b = ω b) → (∀ b, ω' b ≠ 0 → ω b ≠ 0) → VP Φ' (.fz els none) v → (∀ e ∈ els, e.length = sz) →
      St c e' ((σ.set n .dead).map (SObj.frz n sz els)) a w := by
    intro Φ' ω' hle hfz hω hlt hvp hes
    have hn : ∀ u, β[n]? = some u → VP Φ' (.fz els none) u := fun u hu => by rw [hv] at hu; cases hu; exact hvp
    refine ⟨β, Φ', ω', h1, Fz.le_trans h2 hle, h3, h4, fun t => ?_, ⟨h6.os, h6.tape, h6.output, h6.size, fun b hb h0 => ?_, hfz, fun b hb => h6.lt b (hlt b hb), by simp [h6.len], fun m ob u hm hu => ?_, h6.gl.mono hle⟩⟩
    · rcases subF_ok hs t with h | h
      · rw [h]; exact .j _
      · rw [h]; exact (h5 t).frz hle hn hes
    · obtain ⟨k1, k2⟩ := h6.frame b hb h0
      exact ⟨k1, (hω b (by omega)).trans k2⟩
    · rw [List.getElem?_map] at hm
      obtain ⟨o, ho, rfl⟩ := Option.map_eq_some_iff.1 hm
      by_cases he : m = n
      · subst he
        rw [List.getElem?_set_self (List.getElem?_eq_some_iff.1 hσ).1] at ho
        cases ho; trivial
      · rw [List.getElem?_set_ne (fun h => he h.symm)] at ho
        have hO' := h6.obj m o u ho hu
        have hw' : ∀ b, ω b = m + 2 → ω' b = m + 2 := fun b hb => by rw [hω b (by omega)]; exact hb
        cases o with
        | cells vs =>
          obtain ⟨b, cs, Tt, hv', hw, hc, hs', hj⟩ := hO'
          refine ⟨b, cs, Tt, hv', hw' b hw, hc, by simpa using hs', fun j x y hx hy => ?_⟩
          rw [List.getElem?_map] at hx
          obtain ⟨z, hz, rfl⟩ := Option.map_eq_some_iff.1 hx
          exact (hj j z y hz hy).frz hle hn hes
        | row T' sz' l =>
          rcases hO' with h | ⟨b, cap, cs, hv', hw, hc, hs', hl, hm', he', hj⟩
          · exact .inl h
          · exact .inr ⟨b, cap, cs, hv', hw' b hw, hc, hs', hl, hm', he', fun i e j x y a1 a2 a3 => (hj i e j x y a1 a2 a3).mono hle⟩
        | buf T' sz' l =>
          obtain ⟨b, ln, cs, hv', hw, hc, hs', hl, hm', he', hj⟩ := hO'
          exact ⟨b, ln, cs, hv', hw' b hw, hc, hs', hl, hm', he', fun i e j x y a1 a2 a3 => (hj i e j x y a1 a2 a3).mono hle⟩
        | map es =>
          obtain ⟨r, es', ck, hv', hw, hc, hs', hst, hj⟩ := hO'
          exact ⟨r, es', ck, hv', hw' r hw, hc, hs', hst, fun i k x e a1 a2 => ⟨(hj i k x e a1 a2).1.mono hle, (hj i k x e a1 a2).2.mono hle⟩⟩
        | iter m es left cur =>
          obtain ⟨r, bm, es', ck, seen, hv', hw, hc, hmm, hwm, hcm, hst, a1, a2, a3⟩ := hO'
          exact ⟨r, bm, es', ck, seen, hv', hw' r hw, hc, hmm, hw' bm hwm, hcm, hst, a1.mono hle, a2.mono hle, fun k x hk => let ⟨s0, e, q1, q2, q3, q4⟩ := a3 k x hk; ⟨s0, e, q1, q2, q3.mono hle, q4.mono hle⟩⟩
        | dead => trivial
        | unborn => exact hO'
  rcases hO with ⟨ad, rfl, rfl⟩ | ⟨b, cap, cs, rfl, hw, hc, hs', hl, hm, he, hj⟩
  · exact key Φ ω (Fz.le_refl _) h6.fz (fun _ _ => rfl) (fun _ h => h) (.fz 0 [] none ad 0 (fun _ _ => .bool false) (by simp) (by simp) (Nat.zero_le _) (by simp) (by simp) (by simp) (by simp)) (by simp)
  · have hΦb : Φ b = none := by
      cases hb : Φ b with
      | none => rfl
      | some o => have := (h6.fz b o hb).1; omega
    refine key (fun x => if x = b then some (.cells cs T (0, 0)) else Φ x) (fun x => if x = b then 1 else ω x) (fun x o hx => ?_) (fun x o hx => ?_) (fun x hx => ?_) (fun x hx => ?_)
      (.fz sz els none (some ⟨b, 0, none⟩) cap (fun i j => (cs[i * sz + j]?).getD (.bool false)) he hl hm (by simp) (fun _ => rfl) (fun i e j x ad hi hj' had => ?_) (fun i e j x hi hj' => ?_)) he
    · have : x ≠ b := by intro h; subst h; rw [hΦb] at hx; cases hx
      simp only [if_neg this]; exact hx
    · by_cases hxb : x = b
      · subst hxb
        simp only [if_true] at hx ⊢
        cases hx; exact ⟨trivial, hc⟩
      · simp only [if_neg hxb] at hx ⊢; exact h6.fz x o hx
    · have : x ≠ b := by intro h; subst h; exact hx hw
      simp only [if_neg this]
    · by_cases hxb : x = b
      · subst hxb; omega
      · simp only [if_neg hxb] at hx; exact hx
    · cases had
      have hin : i * sz + j < cs.size := by
        rw [hs']
        have hil := (List.getElem?_eq_some_iff.1 hi).1
        have hjl := (List.getElem?_eq_some_iff.1 hj').1
        have := he e (List.mem_of_getElem? hi)
        exact mul_lt_of (Nat.lt_of_lt_of_le hil hl) (by omega)
      have ea : (⟨b, 0, none⟩ : Addr).add (i * sz + j) = ⟨b, i * sz + j, none⟩ := by
        unfold Addr.add
        split
        · rename_i h; simp only [h]
        · simp
      rw [ea]
      simp [Fz.cell, hin]
    · have hin : i * sz + j < cs.size := by
        rw [hs']
        have hil := (List.getElem?_eq_some_iff.1 hi).1
        have hjl := (List.getElem?_eq_some_iff.1 hj').1
        have := he e (List.mem_of_getElem? hi)
        exact mul_lt_of (Nat.lt_of_lt_of_le hil hl) (by omega)
      have h := hj i e j x cs[i * sz + j] hi hj' (Array.getElem?_eq_getElem hin)
      simp only [Array.getElem?_eq_getElem hin, Option.getD_some]
      refine h.mono fun y o hy => ?_
      have : y ≠ b := by intro h; subst h; rw [hΦb] at hy; cases hy
      simp only [if_neg this]; exact hy

attribute [go_sem] SV.frz SObj.frz subF

theorem run_slice_nil {P : Program} {t e : TypeId} (hu : P.underlying t = some (.slice e)) (a : Option Addr) (l c : Nat) (d : Nat) (w : World) : (Op.equalIn (d + 1) t (.slice a l c) (.slice none 0 0)).run P w = .ok a.isNone w := by
  cases a <;> simp [Op.equalIn, run_underlying hu]

theorem wps_nil2 {P : Program} {c : Cx} {e : Env} {σ : List SObj} {Q : Exit → Env → List SObj → Prop} {id : Nat} {ops : Array Oper} {o1 o2 : Oper} {x : Operand} {d1 d2 : Nat} {t t' el : TypeId} {els : List (List PV)} {q : Option Nat}
    (hops : ops = #[o1, o2]) (h1 : o1.op = .move x) (hd1 : o1.dst = some d1) (hg1 : o1.guard = none) (h2 : o2.op = .binOp .eql t (.tmp d1) (.const (.slice none 0 0)) t') (hd2 : o2.dst = some d2) (hg2 : o2.guard = none)
    (hl1 : d1 < c.nt) (hl2 : d2 < c.nt) (hu : P.underlying t = some (.slice el)) (hx : opnd e x = .u (.fz els q))
    (h : ∀ b : Bool, (b = true → els = []) → Q .normal ((e.put (some d1) (.u (.fz els q))).put (some d2) (.u (.b b))) σ) : WPS P c (.region id ops false) e σ Q := by
  subst hops
  intro a w hst
  refine wp_region ?_
  obtain ⟨β, Φ, ω, k1, k2, k3, k4, k5, k6⟩ := hst
  have hr : List.range (#[o1, o2] : Array Oper).size = [0, 1] := rfl
  rw [hr]
  refine wpOps_cons (o := o1) rfl ?_
  rw [if_pos (by simp [Region.wanted, hg1])]
  have hO : OpR P o1 (opnd e) [] (opnd e x) [] := op_move (.inl h1)
  refine wp_of_opR hO (fun t ht => by rw [hd1] at ht; cases ht; exact hl1) k1 k2 k3 k4 k5 k6 (fun y => k5.opnd k6.gl y) trivial fun a1 w1 hs1 => ?_
  obtain ⟨β1, Φ1, ω1, m1, m2, m3, m4, m5, m6⟩ := hs1
  refine wpOps_cons (o := o2) rfl ?_
  rw [if_pos (by simp [Region.wanted, hg2])]
  have hv := m5.opnd m6.gl (.tmp d1)
  have he1 : opnd (e.put o1.dst (opnd e x)) (.tmp d1) = .u (.fz els q) := by
    show (e.put o1.dst (opnd e x)).get d1 = _
    rw [hd1, hx]; simp [Env.put, Env.get]
  rw [he1] at hv
  obtain ⟨sz, ad, cap, f, hval, hsz, hl, hm, hc, ha, _, _⟩ := hv.inv_fz
  have hrun : (execOp a1.eval o2).run P w1 = .ok (.value (.bool ad.isNone)) w1 := by
    have h9 : (Op.equalIn 10000 t (.slice ad els.length cap) (.slice none 0 0)).run P w1 = .ok ad.isNone w1 := run_slice_nil hu ad els.length cap 9999 w1
    have hc0 : a1.eval (.const (.slice none 0 0)) = .slice none 0 0 := rfl
    simp [execOp, h2, hval, hc0, eqGuard_at_slice, binOp, Op.equal, Op.maxDepth, h9]
  unfold Oper.wp
  rw [hrun]
  refine ⟨_, _, ?_, h ad.isNone fun hb => ?_⟩
  · rw [hd1, hx] at m5
    have : St c ((e.put (some d1) (.u (.fz els q))).put o2.dst (.u (.b ad.isNone))) σ (a1.put o2.dst (.bool ad.isNone)) w1 := St.put (fun t ht => by rw [hd2] at ht; cases ht; exact hl2) m1 m2 m3 m4 m5 m6 (V.mk_b _)
    rw [hd2] at this ⊢
    exact this
  · cases hlen : els with
    | nil => rfl
    | cons y l =>
      have := ha (by rw [hlen]; simp)
      cases ad <;> simp at hb this

theorem wps_nilL {P : Program} {c : Cx} {e : Env} {σ : List SObj} {Q : Exit → Env → List SObj → Prop} {id : Nat} {x : Operand} {d1 d2 : Nat} {t t' el t1 t2 : TypeId} {p1 p2 : String} {a1 a2 : Array Edge} {els : List (List PV)} {q : Option Nat}
    (hl1 : d1 < c.nt) (hl2 : d2 < c.nt) (hu : P.underlying t = some (.slice el)) (hx : opnd e x = .u (.fz els q))
    (h : ∀ b : Bool, (b = true → els = []) → Q .normal ((e.put (some d1) (.u (.fz els q))).put (some d2) (.u (.b b))) σ) :
    WPS P c (.region id #[{ dst := some d1, op := .move x, type := t1, pos := p1, after := a1, guard := none }, { dst := some d2, op := .binOp .eql t (.tmp d1) (.const (.slice none 0 0)) t', type := t2, pos := p2, after := a2, guard := none }] false) e σ Q :=
  wps_nil2 rfl rfl rfl rfl rfl rfl rfl hl1 hl2 hu hx h

/-- what is known of a value's room is let go -/
theorem ent_cap {c : Cx} {e : Env} {σ : List SObj} (t : Nat) {els : List (List PV)} {q : Option Nat} (he : e.get t = .u (.fz els q)) : Ent c e σ (e.put (some t) (.u (.fz els none))) σ := by
  rintro a w ⟨β, Φ, ω, h1, h2, h3, h4, h5, h6⟩
  refine ⟨β, Φ, ω, h1, h2, h3, h4, fun s => ?_, h6⟩
  rw [get_put]
  by_cases hs : t = s
  · subst hs
    rw [if_pos rfl]
    have hv := h5 t
    rw [he] at hv
    obtain ⟨sz, ad, cap, f, hval, hsz, hl, hm, hc, ha, g1, g2⟩ := hv.inv_fz
    rw [hval]
    exact .u _ _ (.fz sz els none ad cap f hsz hl hm (by simp) ha g1 g2)
  · rw [if_neg (by simpa using hs)]
    exact h5 s

theorem setBack_more {f : SObj → SObj} : ∀ (θ : List Nat) (l m σ : List SObj), l.length = θ.length → setBack f θ (l ++ m) σ = setAll σ (θ.zip (l.map f)) ++ m.map f
  | [], l, m, σ, h => by
    have : l = [] := List.eq_nil_of_length_eq_zero (by simpa using h)
    subst this; simp [setBack, setAll]
  | n :: θ, x :: l, m, σ, h => by
    simp only [List.cons_append, setBack, List.map_cons, List.zip_cons_cons, setAll]
    exact setBack_more θ l m _ (by simpa using h)
  | n :: θ, [], m, σ, h => by simp at h

/-- a contract in a small memory, wherever its objects stand; with new objects -/
theorem callT_atN {P : Program} {f : FuncId} {al : List SV} {σl τ ν : List SObj} {R : SV} {args : List SV} {σ : List SObj} {K : SV → List SObj → Prop} (θ : List Nat) (obs : List SObj) (hC : CallT P f al σl fun r σ' => r = R ∧ σ' = τ ++ ν)
    (hd : distinctS (θ.map some) = true) (ho : obs.length = θ.length) (hrd : rdOK σ (θ.zip obs)) (ha : args.map (SV.mv fun k => posOf k (θ.map some)) = al) (hσ : obs.map (SObj.mv fun k => posOf k (θ.map some)) = σl) (hτ : τ.length = θ.length)
    (hK : K (R.mv (back θ σ.length)) (setAll σ (θ.zip (τ.map (SObj.mv (back θ σ.length)))) ++ ν.map (SObj.mv (back θ σ.length)))) : CallT P f args σ K := by
  obtain ⟨h1, h2⟩ := rdOK_zip ho hrd
  have hm : mvs (θ.map some) σ = σl := by
    rw [← hσ, ← h2]
    unfold mvs
    rw [List.map_map]; rfl
  refine (callT_frame (args := args) (σ := σ) θ hC hd (List.all_eq_true.2 fun n hn => by simpa using h1 n hn) ha hm).mono fun r σ' ⟨r0, σ0, ⟨e1, e2⟩, hr, hs⟩ => ?_
  subst e1 e2
  rw [hr, hs, setBack_more _ _ _ _ hτ]
  exact hK

theorem posOf_left {n : Nat} {a b : List (Option Nat)} (h : posOf n (a ++ b) = none) : posOf n a = none := by
  cases hp : posOf n a with
  | none => rfl
  | some k =>
    have h1 := posOf_some hp
    exact absurd (by rw [List.getElem?_append_left (List.getElem?_eq_some_iff.1 h1).1]; exact h1) (posOf_none h k)

theorem distinctS_left : ∀ {a b : List (Option Nat)}, distinctS (a ++ b) = true → distinctS a = true
  | [], b, _ => rfl
  | none :: a, b, h => by
    simp only [List.cons_append, distinctS] at h ⊢
    exact distinctS_left h
  | some n :: a, b, h => by
    simp only [List.cons_append, distinctS, Bool.and_eq_true, Option.isNone_iff_eq_none] at h ⊢
    exact ⟨posOf_left h.1, distinctS_left h.2⟩

/-- a call in a larger memory; its new objects get the names μ, that were kept free -/
theorem callT_frameN {P : Program} {f : FuncId} {args al : List SV} {σ σl τ : List SObj} {R : SV} (θ μ : List Nat) (hC : CallT P f al σl fun r σ' => r = R ∧ σ' = τ) (hd : distinctS ((θ ++ μ).map some) = true) (hlt : (θ ++ μ).all (fun n => decide (n < σ.length)) = true)
    (hμ : ∀ m ∈ μ, σ[m]? = some .unborn) (hτ : τ.length = (θ ++ μ).length) (ha : args.map (SV.mv fun k => posOf k (θ.map some)) = al) (hσ : mvs (θ.map some) σ = σl) :
    CallT P f args σ fun r σ' => r = R.mv (back (θ ++ μ) σ.length) ∧ σ' = setBack (SObj.mv (back (θ ++ μ) σ.length)) (θ ++ μ) τ σ := by
  subst ha hσ
  intro w0 ω0 β Φ ω w vs hR hl hv
  have hnd := distinctS_nodup hd
  have hθ : ∀ k ∈ θ ++ μ, k < σ.length := fun k hk => by simpa using List.all_eq_true.1 hlt k hk
  let src := θ.map some
  have hposθ : ∀ {n m : Nat}, src[m]? = some (some n) → posOf n src = some m := fun hm => posOf_at (distinctS_left (a := θ.map some) (b := μ.map some) (by rw [← List.map_append]; exact hd)) hm
  let fω : Nat → Nat := fun k => match k with
    | 0 => 0
    | 1 => 1
    | n + 2 => match posOf n src with | some m => m + 2 | none => 0
  have hRl : Rep w (fun b => fω (ω b)) (mvβ src β) (mvs src σ) Φ (fun b => fω (ω b)) w := by
    refine ⟨rfl, rfl, rfl, Nat.le_refl _, fun b _ h0 => ⟨rfl, h0⟩, fun b o hb => ?_, fun b hb => ?_, by simp [mvβ, mvs], fun m ob v hm hv' => ?_, hR.gl⟩
    · obtain ⟨h1, h2⟩ := hR.fz b o hb
      exact ⟨by simp only [h1]; rfl, h2⟩
    · refine hR.lt b fun e => hb ?_
      simp only [e]; rfl
    · rcases mvs_get hm with ⟨n, hn, rfl⟩ | rfl
      · rw [List.getD_eq_getElem?_getD]
        cases hσ : σ[n]? with
        | none => trivial
        | some ob =>
          obtain ⟨v', hv'', hO⟩ := hR.at_ hσ
          have := mvβ_get hn hv''
          rw [hv'] at this
          cases this
          exact hO.mv mv_rel fun b hb => by
            have hpn : posOf n src = some m := hposθ hn
            simp only [hb, fω]; rw [hpn]
      · trivial
  have hvl : ∀ (j : Nat) x v, (args.map (SV.mv fun k => posOf k src))[j]? = some x → vs[j]? = some v → V (mvβ src β) Φ x v := by
    intro j x v hx hvj
    rw [List.getElem?_map] at hx
    obtain ⟨y, hy, rfl⟩ := Option.map_eq_some_iff.1 hx
    exact (hv j y v hy hvj).mv mv_rel
  refine (hC w _ _ Φ _ w vs hRl (by simpa using hl) hvl).mono fun en w' ⟨r0, v, β', σ0, Φ', ω', he, hb, hle, hvr, hR', hlen, hQ1, hQ2⟩ => ?_
  subst hQ1 hQ2
  have hk : (θ ++ μ).length ≤ σ0.length := by omega
  have hkβ : (θ ++ μ).length ≤ β'.length := by rw [hR'.len]; exact hk
  let N := σ.length
  have hN : β.length = N := hR.len
  let β2 := setBack (fun v : Value => v) (θ ++ μ) β' β
  have hθβ : ∀ k ∈ θ ++ μ, k < β.length := fun k hk => by rw [hN]; exact hθ k hk
  have hbk : ∀ (i m : Nat) (u : Value), back (θ ++ μ) N i = some m → β'[i]? = some u → isRef u = true → β2[m]? = some u := by
    intro i m u hb' hu _
    unfold back at hb'
    split at hb'
    · have := setBack_at (fun v : Value => v) (θ ++ μ) β' β i m hnd hθβ hb' hkβ
      rw [show β2[m]? = _ from this, hu]; rfl
    · have hil := (List.getElem?_eq_some_iff.1 hu).1
      have := hR'.len
      omega
  have unb : ∀ n ∈ μ, ∀ u, β[n]? = some u → isRef u = false := by
    intro n hn u hu
    have := hR.obj n .unborn u (hμ n hn) hu
    simp only [O] at this
    subst this; rfl
  have hext : BExt β β2 := by
    intro n u hn hr
    have hnl := (List.getElem?_eq_some_iff.1 hn).1
    cases hp : posOf n src with
    | some i =>
      have hi := posOf_map_some hp
      have h1 : (mvβ src β)[i]? = some u := mvβ_get (posOf_some hp) hn
      have h2 := hb i u h1 hr
      have hi' : (θ ++ μ)[i]? = some n := by rw [List.getElem?_append_left (List.getElem?_eq_some_iff.1 hi).1]; exact hi
      have := setBack_at (fun v : Value => v) (θ ++ μ) β' β i n hnd hθβ hi' hkβ
      rw [show β2[n]? = _ from this, h2]; rfl
    | none =>
      have h1 := posOf_map_none hp
      have h2 : n ∉ μ := fun h => by rw [unb n h u hn] at hr; cases hr
      exact (setBack_old (fun v : Value => v) (θ ++ μ) β' β n hnl (by simp [h1, h2])).trans hn
  let ω2 : Nat → Nat := fun b => match ω' b with
    | 0 => if b < w.heap.size ∧ fω (ω b) = 0 then ω b else 0
    | 1 => 1
    | i + 2 => match back (θ ++ μ) N i with | some m => m + 2 | none => 0
  refine ⟨_, v, β2, _, Φ', ω2, he, hext, hle, hvr.mv hbk, ⟨hR'.os.trans hR.os, hR'.tape.trans hR.tape, hR'.output.trans hR.output, Nat.le_trans hR.size hR'.size, fun b hb0 h0 => ?_, fun b o hbo => ?_, fun b hb0 => ?_, ?_, fun m ob u hm hu => ?_, hR'.gl⟩, ?_, rfl, rfl⟩
  · obtain ⟨h1, h2⟩ := hR.frame b hb0 h0
    have hz : fω (ω b) = 0 := by rw [h2]
    have hbl : b < w.heap.size := Nat.lt_of_lt_of_le hb0 hR.size
    obtain ⟨h3, h4⟩ := hR'.frame b hbl hz
    refine ⟨h3.trans h1, ?_⟩
    simp only [ω2, h4]
    rw [if_pos ⟨hbl, hz⟩]; exact h2
  · obtain ⟨h1, h2⟩ := hR'.fz b o hbo
    exact ⟨by simp only [ω2, h1], h2⟩
  · cases hw : ω' b with
    | zero =>
      simp only [ω2, hw] at hb0
      split at hb0
      · rename_i hc; exact Nat.lt_of_lt_of_le hc.1 hR'.size
      · exact absurd rfl hb0
    | succ k => exact hR'.lt b (by omega)
  · rw [setBack_length _ _ _ _ hkβ, setBack_length _ _ _ _ hk, hN, hR'.len]
  · have hmN : m < σ.length := by
      have := (List.getElem?_eq_some_iff.1 hm).1
      rw [setBack_length _ _ _ _ hk] at this
      omega
    by_cases hmem : m ∈ θ ++ μ
    · obtain ⟨i, hil, hie⟩ := List.getElem_of_mem hmem
      have hi : (θ ++ μ)[i]? = some m := by rw [List.getElem?_eq_getElem hil, hie]
      have h1 := setBack_at (SObj.mv (back (θ ++ μ) σ.length)) (θ ++ μ) σ0 σ i m hnd hθ hi hk
      have h2 := setBack_at (fun v : Value => v) (θ ++ μ) β' β i m hnd hθβ hi hkβ
      rw [h1] at hm
      rw [show β2[m]? = _ from h2] at hu
      obtain ⟨ob0, ho0, rfl⟩ := Option.map_eq_some_iff.1 hm
      obtain ⟨u0, hu0, rfl⟩ := Option.map_eq_some_iff.1 hu
      refine (hR'.obj i ob0 _ ho0 hu0).mv hbk fun b hb0 => ?_
      simp only [ω2, hb0, back]
      rw [if_pos hil, hi]
    · rw [setBack_old _ (θ ++ μ) σ0 σ m hmN hmem] at hm
      rw [show β2[m]? = _ from setBack_old (fun v : Value => v) (θ ++ μ) β' β m (by omega) hmem] at hu
      refine (hR.obj m ob u hm hu).mono hext hle fun b hb0 => ?_
      have hbl := hR.lt b (by omega)
      have hz : fω (ω b) = 0 := by
        have : posOf m src = none := by
          cases hp : posOf m src with
          | none => rfl
          | some k => exact absurd (List.mem_of_getElem? (posOf_map_some hp)) (fun h => hmem (by simp [h]))
        simp only [hb0, fω, this]
      obtain ⟨h3, h4⟩ := hR'.frame b hbl hz
      refine ⟨?_, h3⟩
      simp only [ω2, h4]
      rw [if_pos ⟨hbl, hz⟩]; exact hb0
  · rw [setBack_length _ _ _ _ hk]; omega

theorem rdOK_app {σ : List SObj} : ∀ {a b : List (Nat × SObj)}, rdOK σ (a ++ b) ↔ rdOK σ a ∧ rdOK σ b
  | [], b => by simp [rdOK]
  | (n, o) :: a, b => by simp only [List.cons_append, rdOK, rdOK_app (a := a), and_assoc]

theorem callD_N {P : Program} {f : FuncId} {al : List SV} {σl τ : List SObj} {R : SV} (θ : List Nat) (obs : List SObj) (μ : List Nat) {args : List SV} {R' : SV} {τ' : List SObj} (hC : CallT P f al σl fun r σ' => r = R ∧ σ' = τ)
    (hd : distinctS ((θ ++ μ).map some) = true) (ho : obs.length = θ.length) (hτ : τ.length = (θ ++ μ).length) (ha : args.map (SV.mv fun k => posOf k (θ.map some)) = al) (hσ : obs.map (SObj.mv fun k => posOf k (θ.map some)) = σl)
    (hR : ∀ N, R.mv (back (θ ++ μ) N) = R') (hS : ∀ N, τ.map (SObj.mv (back (θ ++ μ) N)) = τ') : CallD P f args (θ.zip obs ++ μ.map fun m => (m, .unborn)) R' ((θ ++ μ).zip τ') := by
  intro σ hrd
  obtain ⟨hrd1, hrd2⟩ := rdOK_app.1 hrd
  obtain ⟨h1, h2⟩ := rdOK_zip ho hrd1
  have hm : mvs (θ.map some) σ = σl := by
    rw [← hσ, ← h2]
    unfold mvs
    rw [List.map_map]; rfl
  have hμ : ∀ m ∈ μ, σ[m]? = some .unborn := fun m hm => rdOK_mem hrd2 m .unborn (List.mem_map.2 ⟨m, hm, rfl⟩)
  refine (callT_frameN (args := args) (σ := σ) θ μ hC hd (List.all_eq_true.2 fun n hn => ?_) hμ hτ ha hm).mono fun r σ' ⟨e1, e2⟩ => ?_
  · rcases List.mem_append.1 hn with h | h
    · simpa using h1 n h
    · simpa using (List.getElem?_eq_some_iff.1 (hμ n h)).1
  · refine ⟨e1.trans (hR _), ?_⟩
    rw [e2, setBack_setAll _ _ _ hτ, hS]

theorem callE_N {P : Program} {f : FuncId} {al : List SV} {σl τ : List SObj} {R : SV} {args : List SV} {R' : SV} {τ' : List SObj} {σ : List SObj} {K : List (Nat × SObj) → SV → List (Nat × SObj) → Prop} (θ : List Nat) (obs : List SObj) (μ : List Nat) (hC : CallT P f al σl fun r σ' => r = R ∧ σ' = τ)
    (hd : distinctS ((θ ++ μ).map some) = true) (ho : obs.length = θ.length) (hrd : rdOK σ (θ.zip obs ++ μ.map fun m => (m, .unborn))) (ha : args.map (SV.mv fun k => posOf k (θ.map some)) = al) (hσ : obs.map (SObj.mv fun k => posOf k (θ.map some)) = σl) (hτ : τ.length = (θ ++ μ).length)
    (hR : ∀ N, R.mv (back (θ ++ μ) N) = R') (hS : ∀ N, τ.map (SObj.mv (back (θ ++ μ) N)) = τ') (hK : K (θ.zip obs ++ μ.map fun m => (m, .unborn)) R' ((θ ++ μ).zip τ')) : CallE P f args σ K :=
  ⟨_, _, _, callD_N θ obs μ hC hd ho hτ ha hσ hR hS, hrd, hK⟩

/-! ### a row handed over for good -/
theorem Rep.freeze {w0 : World} {ω0 : Nat → Nat} {β : List Value} {σ : List SObj} {Φ : Fz} {ω : Nat → Nat} {w : World} (h6 : Rep w0 ω0 β σ Φ ω w) {n : Nat} {T : TypeId} {sz : Nat} {els : List (List PV)} (hσ : σ[n]? = some (.row T sz els)) :
    ∃ Φ' ω', Φ.le Φ' ∧ Rep w0 ω0 β (σ.set n .dead) Φ' ω' w ∧ ∀ v, β[n]? = some v → VP Φ' (.fz els none) v := by
  let c : Cx := ⟨w0, ω0, β, Φ, 0⟩
  have hst : St c [] σ { tmps := #[], defers := [] } w := ⟨β, Φ, ω, BExt.refl _, Fz.le_refl _, rfl, rfl, fun t => .j _, h6⟩
  obtain ⟨v, hv, hO⟩ := h6.at_ hσ
  have key : ∀ (Φ' : Fz) (ω' : Nat → Nat), Φ.le Φ' → (∀ b o, Φ' b = some o → ω' b = 1 ∧ w.heap[b]? = some o) → (∀ b, ω b ≠ n + 2 → ω' b = ω b) → (∀ b, ω' b ≠ 0 → ω b ≠ 0) → VP Φ' (.fz els none) v →
      ∃ Φ' ω', Φ.le Φ' ∧ Rep w0 ω0 β (σ.set n .dead) Φ' ω' w ∧ ∀ v, β[n]? = some v → VP Φ' (.fz els none) v := by
    intro Φ' ω' hle hfz hω hlt hvp
    refine ⟨Φ', ω', hle, ⟨h6.os, h6.tape, h6.output, h6.size, fun b hb h0 => ?_, hfz, fun b hb => h6.lt b (hlt b hb), by simp [h6.len], fun m ob u hm hu => ?_, h6.gl.mono hle⟩, fun u hu => by rw [hv] at hu; cases hu; exact hvp⟩
    · obtain ⟨k1, k2⟩ := h6.frame b hb h0
      exact ⟨k1, (hω b (by omega)).trans k2⟩
    · by_cases he : m = n
      · subst he
        rw [List.getElem?_set_self (List.getElem?_eq_some_iff.1 hσ).1] at hm
        cases hm; trivial
      · rw [List.getElem?_set_ne (fun h => he h.symm)] at hm
        exact (h6.obj m ob u hm hu).mono (BExt.refl _) hle fun b hb => ⟨by rw [hω b (by omega)]; exact hb, rfl⟩
  rcases hO with ⟨ad, rfl, rfl⟩ | ⟨b, cap, cs, rfl, hw, hc, hs', hl, hm, he, hj⟩
  · exact key Φ ω (Fz.le_refl _) h6.fz (fun _ _ => rfl) (fun _ h => h) (.fz 0 [] none ad 0 (fun _ _ => .bool false) (by simp) (by simp) (Nat.zero_le _) (by simp) (by simp) (by simp) (by simp))
  · have hΦb : Φ b = none := by
      cases hb : Φ b with
      | none => rfl
      | some o => have := (h6.fz b o hb).1; omega
    refine key (fun x => if x = b then some (.cells cs T (0, 0)) else Φ x) (fun x => if x = b then 1 else ω x) (fun x o hx => ?_) (fun x o hx => ?_) (fun x hx => ?_) (fun x hx => ?_)
      (.fz sz els none (some ⟨b, 0, none⟩) cap (fun i j => (cs[i * sz + j]?).getD (.bool false)) he hl hm (by simp) (fun _ => rfl) (fun i e j x ad hi hj' had => ?_) (fun i e j x hi hj' => ?_))
    · have : x ≠ b := by intro h; subst h; rw [hΦb] at hx; cases hx
      simp only [if_neg this]; exact hx
    · by_cases hxb : x = b
      · subst hxb
        simp only [if_true] at hx ⊢
        cases hx; exact ⟨trivial, hc⟩
      · simp only [if_neg hxb] at hx ⊢; exact h6.fz x o hx
    · have : x ≠ b := by intro h; subst h; exact hx hw
      simp only [if_neg this]
    · by_cases hxb : x = b
      · subst hxb; omega
      · simp only [if_neg hxb] at hx; exact hx
    · cases had
      have hin : i * sz + j < cs.size := by
        rw [hs']
        have hil := (List.getElem?_eq_some_iff.1 hi).1
        have hjl := (List.getElem?_eq_some_iff.1 hj').1
        have := he e (List.mem_of_getElem? hi)
        exact mul_lt_of (Nat.lt_of_lt_of_le hil hl) (by omega)
      have ea : (⟨b, 0, none⟩ : Addr).add (i * sz + j) = ⟨b, i * sz + j, none⟩ := by
        unfold Addr.add
        split
        · rename_i h; simp only [h]
        · simp
      rw [ea]
      simp [Fz.cell, hin]
    · have hin : i * sz + j < cs.size := by
        rw [hs']
        have hil := (List.getElem?_eq_some_iff.1 hi).1
        have hjl := (List.getElem?_eq_some_iff.1 hj').1
        have := he e (List.mem_of_getElem? hi)
        exact mul_lt_of (Nat.lt_of_lt_of_le hil hl) (by omega)
      have h := hj i e j x cs[i * sz + j] hi hj' (Array.getElem?_eq_getElem hin)
      simp only [Array.getElem?_eq_getElem hin, Option.getD_some]
      refine h.mono fun y o hy => ?_
      have : y ≠ b := by intro h; subst h; rw [hΦb] at hy; cases hy
      simp only [if_neg this]; exact hy

theorem Rep.row_sz {w0 : World} {ω0 : Nat → Nat} {β : List Value} {σ : List SObj} {Φ : Fz} {ω : Nat → Nat} {w : World} (h : Rep w0 ω0 β σ Φ ω w) {n : Nat} {T : TypeId} {sz : Nat} {els : List (List PV)} (hσ : σ[n]? = some (.row T sz els)) : ∀ e ∈ els, e.length = sz := by
  obtain ⟨v, _, hO⟩ := h.at_ hσ
  rcases hO with ⟨_, _, rfl⟩ | ⟨_, _, _, _, _, _, _, _, _, he, _⟩
  · simp
  · exact he

theorem callT_frz {P : Program} {f : FuncId} {args : List SV} {σ : List SObj} {K : SV → List SObj → Prop} (n : Nat) {T : TypeId} {sz : Nat} {els : List (List PV)} (hσ : σ[n]? = some (.row T sz els)) (h : CallT P f (args.map (SV.frz n sz els)) (σ.set n .dead) K) : CallT P f args σ K := by
  intro w0 ω0 β Φ ω w vs hR hl hv
  obtain ⟨Φ', ω', hle, hR', hvp⟩ := hR.freeze hσ
  refine (h w0 ω0 β Φ' ω' w vs hR' (by simpa using hl) fun j x v hx hv' => ?_).mono fun en w' ⟨r, v, β', σ', Φ'', ω'', h1, h2, h3, h4, h5, h6, h7⟩ => ⟨r, v, β', σ', Φ'', ω'', h1, h2, Fz.le_trans hle h3, h4, h5, by simpa using h6, h7⟩
  rw [List.getElem?_map] at hx
  obtain ⟨y, hy, rfl⟩ := Option.map_eq_some_iff.1 hx
  exact (hv j y v hy hv').frz hle hvp (hR.row_sz hσ)


def Env.keep : List Nat → Env → Env
  | _, [] => []
  | ks, (d, x) :: r => if ks.contains d then (d, x) :: Env.keep (ks.erase d) r else Env.keep ks r

theorem keep_get : ∀ (e : Env) (ks : List Nat) (t : Nat), (Env.keep ks e).get t = .j ∨ (Env.keep ks e).get t = e.get t
  | [], ks, t => .inl rfl
  | (d, x) :: r, ks, t => by
    unfold Env.keep
    by_cases hd : d = t
    · subst hd
      split
      · right; simp [Env.get]
      · rename_i h
        left
        have : ∀ (r : Env) (ks : List Nat), ks.contains d = false → (Env.keep ks r).get d = .j := by
          intro r
          induction r with
          | nil => intro ks _; rfl
          | cons p r ih =>
            obtain ⟨d', x'⟩ := p
            intro ks hk
            unfold Env.keep
            split
            · rename_i h'
              have hne : d' ≠ d := by rintro rfl; rw [hk] at h'; cases h'
              simp only [Env.get, if_neg hne]
              refine ih _ ?_
              cases hc : (ks.erase d').contains d with
              | false => rfl
              | true =>
                have := List.mem_of_mem_erase (List.contains_iff_mem.1 hc)
                rw [List.contains_iff_mem.2 this] at hk; cases hk
            · exact ih ks hk
        exact this r ks (by simpa using h)
    · have : (Env.get ((d, x) :: r) t) = Env.get r t := by simp [Env.get, hd]
      rw [this]
      split
      · simp only [Env.get, if_neg hd]; exact keep_get r _ t
      · exact keep_get r ks t

/-- slots that are never read again are let go -/
theorem wps_keep {P : Program} {c : Cx} {e e' : Env} {σ : List SObj} {Q : Exit → Env → List SObj → Prop} {code : Code} (ks : List Nat) (he : Env.keep ks e = e') (h : WPS P c code e' σ Q) : WPS P c code e σ Q := by
  subst he
  exact wps_ent (ent_sub fun t => keep_get e ks t) h

theorem List.contains_lit_cons (a b : Nat) (l : List Nat) : (b :: l).contains a = if a = b then true else l.contains a := by
  by_cases h : a = b
  · subst h; simp
  · simp [h]
theorem List.erase_lit_cons (a b : Nat) (l : List Nat) : (b :: l).erase a = if b = a then l else b :: l.erase a := by
  by_cases h : b = a
  · subst h; simp
  · simp [List.erase_cons, h]
theorem List.contains_lit_nil (a : Nat) : ([] : List Nat).contains a = false := rfl
theorem List.erase_lit_nil (a : Nat) : ([] : List Nat).erase a = [] := rfl
theorem keep_nil (ks : List Nat) : Env.keep ks [] = [] := by cases ks <;> rfl
theorem keep_done (e : Env) : Env.keep [] e = [] := by
  induction e with
  | nil => rfl
  | cons p r ih => obtain ⟨d, x⟩ := p; unfold Env.keep; simpa using ih
theorem keep_cons (ks : List Nat) (d : Nat) (x : SV) (r : Env) : Env.keep ks ((d, x) :: r) = if ks.contains d then (d, x) :: Env.keep (ks.erase d) r else Env.keep ks r := by cases ks <;> rfl
end Go.Nm

/- What comes in, its size told. -/
namespace Go.Nm
open Go.ChangeShapes Go.WideShapes Go.Deep Go.RowKit

section
variable {H : Type} {enc : TypeId × Value → H} {P : Program} {w : World} {base : Nat} {spare : Nat → Bool} {held : Bool}

end


def SV.frc (n : Nat) (vs : List PV) : SV → SV
  | .u x => .u x
  | .p m off => if m = n then .u (.fp (vs.drop off)) else .p m off
  | .rp m s i off => .rp m s i off
  | .sl m s lo hi => .sl m s lo hi
  | .h m => if m = n then .j else .h m
  | .fn f caps => .fn f (caps.map (SV.frc n vs))
  | .bm f caps => .bm f (caps.map (SV.frc n vs))
  | .agg cs => .agg (cs.map (SV.frc n vs))
  | .tup cs => .tup (cs.map (SV.frc n vs))
  | .gd k c x => .gd k c (SV.frc n vs x)
  | .j => .j

def SObj.frc (n : Nat) (vs : List PV) : SObj → SObj
  | .cells xs => .cells (xs.map (SV.frc n vs))
  | .row e s l => .row e s l
  | .buf e s es => .buf e s es
  | .map es => .map es
  | .iter m es left cur => .iter m es left cur
  | .dead => .dead
  | .unborn => .unborn

theorem V.frc {β : List Value} {Φ Φ' : Fz} (hle : Φ.le Φ') {n : Nat} {vs : List PV} (hn : ∀ a, β[n]? = some (.pointer (some a)) → ∃ f : Nat → Value, ∀ (j : Nat) x, vs[j]? = some x → Φ'.cell (a.add j) = some (f j) ∧ VP Φ' x (f j)) {x : SV} {v : Value} (h : V β Φ x v) : V β Φ' (x.frc n vs) v := by
  induction h with
  | u x v h => rw [SV.frc]; exact .u x v (h.mono hle)
  | p m off a h =>
    rw [SV.frc]
    split
    · rename_i e; subst e
      obtain ⟨f, hf⟩ := hn a h
      refine .u _ _ (.fp _ _ (fun j => f (off + j)) (fun j y hy => ?_) fun j y hy => ?_)
      · rw [add_add]; exact (hf _ y (by rwa [List.getElem?_drop] at hy)).1
      · exact (hf _ y (by rwa [List.getElem?_drop] at hy)).2
    · exact .p m off a h
  | rp m s i off a l c h => rw [SV.frc]; exact .rp m s i off a l c h
  | sl m s lo hi a a' l c h h1 h2 ha => rw [SV.frc]; exact .sl m s lo hi a a' l c h h1 h2 ha
  | h m v h hr =>
    rw [SV.frc]
    split
    · exact .j _
    · exact .h m v h hr
  | fn f caps vs hl _ ih =>
    rw [SV.frc]
    refine .fn f _ vs (by simpa using hl) fun j x v hx hv => ?_
    rw [List.getElem?_map] at hx
    obtain ⟨y, hy, rfl⟩ := Option.map_eq_some_iff.1 hx
    exact ih j y v hy hv
  | bm f caps vs hl _ ih =>
    rw [SV.frc]
    refine .bm f _ vs (by simpa using hl) fun j x v hx hv => ?_
    rw [List.getElem?_map] at hx
    obtain ⟨y, hy, rfl⟩ := Option.map_eq_some_iff.1 hx
    exact ih j y v hy hv
  | agg cs vs hl _ ih =>
    rw [SV.frc]
    refine .agg _ vs (by simpa using hl) fun j x v hx hv => ?_
    rw [List.getElem?_map] at hx
    obtain ⟨y, hy, rfl⟩ := Option.map_eq_some_iff.1 hx
    exact ih j y v hy hv
  | tup cs vs hl _ ih =>
    rw [SV.frc]
    refine .tup _ vs (by simpa using hl) fun j x v hx hv => ?_
    rw [List.getElem?_map] at hx
    obtain ⟨y, hy, rfl⟩ := Option.map_eq_some_iff.1 hx
    exact ih j y v hy hv
  | gd k c x v _ h0 ih => rw [SV.frc]; exact .gd k c _ v ih h0
  | j v => rw [SV.frc]; exact .j v

/-- an environment, written out, in which cells have become a value -/
def subC (n : Nat) (vs : List PV) (e : Env) : Env → Prop
  | [] => True
  | (d, x) :: r => (e.get d).frc n vs = x ∧ subC n vs e r

theorem subC_ok {n : Nat} {vs : List PV} {e : Env} : ∀ {e' : Env}, subC n vs e e' → ∀ t, e'.get t = .j ∨ e'.get t = (e.get t).frc n vs
  | [], _, t => .inl rfl
  | (d, x) :: r, h, t => by
    simp only [Env.get]
    by_cases hd : d = t
    · subst hd; rw [if_pos rfl]; exact .inr h.1.symm
    · rw [if_neg hd]; exact subC_ok h.2 t

theorem entFc {c : Cx} {e e' : Env} {σ σ' : List SObj} (n : Nat) (vs : List PV) (hσ : σ[n]? = some (.cells (vs.map .u))) (hs : subC n vs e e') (hσ' : (σ.set n .dead).map (SObj.frc n vs) = σ') : Ent c e σ e' σ' := by
  subst hσ'
  rintro a w ⟨β, Φ, ω, h1, h2, h3, h4, h5, h6⟩
  obtain ⟨v, hv, b, cs, T, rfl, hw, hc, hsz, hj⟩ := h6.at_ hσ
  have hΦb : Φ b = none := by
    cases hb : Φ b with
    | none => rfl
    | some o => have := (h6.fz b o hb).1; omega
  let Φ' : Fz := fun x => if x = b then some (.cells cs T (0, 0)) else Φ x
  let ω' : Nat → Nat := fun x => if x = b then 1 else ω x
  have hle : Φ.le Φ' := fun x o hx => by
    have : x ≠ b := by intro h; subst h; rw [hΦb] at hx; cases hx
    simp only [Φ', if_neg this]; exact hx
  have hn : ∀ a, β[n]? = some (.pointer (some a)) → ∃ f : Nat → Value, ∀ (j : Nat) x, vs[j]? = some x → Φ'.cell (a.add j) = some (f j) ∧ VP Φ' x (f j) := by
    intro a ha
    rw [hv] at ha
    cases ha
    refine ⟨fun j => (cs[j]?).getD (.bool false), fun j x hx => ?_⟩
    have hjl : j < cs.size := by rw [hsz, List.length_map]; exact (List.getElem?_eq_some_iff.1 hx).1
    have hcj : cs[j]? = some cs[j] := Array.getElem?_eq_getElem hjl
    refine ⟨?_, ?_⟩
    · rw [Addr.add_lit, Nat.zero_add]
      simp [Fz.cell, Φ', hjl]
    · have hV := hj j (.u x) cs[j] (by rw [List.getElem?_map, hx]; rfl) hcj
      cases hV with | u _ _ hp =>
      simp only [hcj, Option.getD_some]
      exact hp.mono hle
  refine ⟨β, Φ', ω', h1, Fz.le_trans h2 hle, h3, h4, fun t => ?_, ⟨h6.os, h6.tape, h6.output, h6.size, fun x hx h0 => ?_, fun x o hx => ?_, fun x hx => ?_, by simp [h6.len], fun m ob u hm hu => ?_, h6.gl.mono hle⟩⟩
  · rcases subC_ok hs t with h | h
    · rw [h]; exact .j _
    · rw [h]; exact (h5 t).frc hle hn
  · obtain ⟨k1, k2⟩ := h6.frame x hx h0
    have : x ≠ b := by intro h; subst h; omega
    exact ⟨k1, by simp only [ω', if_neg this]; exact k2⟩
  · by_cases hxb : x = b
    · subst hxb
      simp only [Φ', ω', if_true] at hx ⊢
      cases hx; exact ⟨trivial, hc⟩
    · simp only [Φ', ω', if_neg hxb] at hx ⊢; exact h6.fz x o hx
  · by_cases hxb : x = b
    · subst hxb; exact h6.lt x (by omega)
    · simp only [ω', if_neg hxb] at hx; exact h6.lt x hx
  · have hkeep : ∀ x, ω x = m + 2 → m ≠ n → ω' x = m + 2 := fun x hx hmn => by
      have : x ≠ b := by intro h; subst h; omega
      simp only [ω', if_neg this]; exact hx
    rw [List.getElem?_map] at hm
    obtain ⟨o, ho, rfl⟩ := Option.map_eq_some_iff.1 hm
    by_cases he : m = n
    · subst he
      rw [List.getElem?_set_self (List.getElem?_eq_some_iff.1 hσ).1] at ho
      cases ho; trivial
    · rw [List.getElem?_set_ne (fun h => he h.symm)] at ho
      have hO' := h6.obj m o u ho hu
      cases o with
      | cells xs =>
        obtain ⟨b', cs', Tt, hv', hw', hc', hs', hj'⟩ := hO'
        refine ⟨b', cs', Tt, hv', hkeep _ hw' he, hc', by simpa using hs', fun j x y hx hy => ?_⟩
        rw [List.getElem?_map] at hx
        obtain ⟨z, hz, rfl⟩ := Option.map_eq_some_iff.1 hx
        exact (hj' j z y hz hy).frc hle hn
      | row T' sz' l =>
        rcases hO' with h | ⟨b', cap, cs', hv', hw', hc', hs', hl, hm', he', hj'⟩
        · exact .inl h
        · exact .inr ⟨b', cap, cs', hv', hkeep _ hw' he, hc', hs', hl, hm', he', fun i e j x y a1 a2 a3 => (hj' i e j x y a1 a2 a3).mono hle⟩
      | buf T' sz' l =>
        obtain ⟨b', ln, cs', hv', hw', hc', hs', hl, hm', he', hj'⟩ := hO'
        exact ⟨b', ln, cs', hv', hkeep _ hw' he, hc', hs', hl, hm', he', fun i e j x y a1 a2 a3 => (hj' i e j x y a1 a2 a3).mono hle⟩
      | map es =>
        obtain ⟨r, es', ck, hv', hw', hc', hs', hst, hj'⟩ := hO'
        exact ⟨r, es', ck, hv', hkeep _ hw' he, hc', hs', hst, fun i k x e a1 a2 => ⟨(hj' i k x e a1 a2).1.mono hle, (hj' i k x e a1 a2).2.mono hle⟩⟩
      | iter m es left cur =>
        obtain ⟨r, bm, es', ck, seen, hv', hw', hc', hmm, hwm, hcm, hst, a1, a2, a3⟩ := hO'
        exact ⟨r, bm, es', ck, seen, hv', hkeep _ hw' he, hc', hmm, hkeep _ hwm he, hcm, hst, a1.mono hle, a2.mono hle, fun k x hk => let ⟨s0, e, q1, q2, q3, q4⟩ := a3 k x hk; ⟨s0, e, q1, q2, q3.mono hle, q4.mono hle⟩⟩
      | dead => trivial
      | unborn => exact hO'

/-- a function over pure values is pure -/
theorem ent_pfn {c : Cx} {e : Env} {σ : List SObj} (t : Nat) (f : FuncId) (caps : List PV) (he : e.get t = .fn f (caps.map .u)) : Ent c e σ ((t, .u (.fn f caps)) :: e) σ := by
  rintro a w ⟨β, Φ, ω, h1, h2, h3, h4, h5, h6⟩
  refine ⟨β, Φ, ω, h1, h2, h3, h4, fun s => ?_, h6⟩
  simp only [Env.get]
  by_cases hs : t = s
  · subst hs
    rw [if_pos rfl]
    have hv := h5 t
    rw [he] at hv
    obtain ⟨us, hu, hl, hj⟩ := hv.inv_fn
    rw [hu]
    refine .u _ _ (.fn f caps us (by simpa using hl) fun j x v hx hv' => ?_)
    have := hj j (.u x) v (by rw [List.getElem?_map, hx]; rfl) hv'
    cases this; assumption
  · rw [if_neg hs]; exact h5 s

/-- a call whose contract leaves a choice -/
theorem callT_atNE {P : Program} {f : FuncId} {al : List SV} {σl : List SObj} {X : Type} {Q : X → Prop} {τ ν : X → List SObj} {R : X → SV} {args : List SV} {σ : List SObj} {K : SV → List SObj → Prop} (θ : List Nat) (obs : List SObj) (hC : CallT P f al σl fun r σ' => ∃ x, Q x ∧ r = R x ∧ σ' = τ x ++ ν x)
    (hd : distinctS (θ.map some) = true) (ho : obs.length = θ.length) (hrd : rdOK σ (θ.zip obs)) (ha : args.map (SV.mv fun k => posOf k (θ.map some)) = al) (hσ : obs.map (SObj.mv fun k => posOf k (θ.map some)) = σl) (hτ : ∀ x, (τ x).length = θ.length)
    (hK : ∀ x, Q x → K ((R x).mv (back θ σ.length)) (setAll σ (θ.zip ((τ x).map (SObj.mv (back θ σ.length)))) ++ (ν x).map (SObj.mv (back θ σ.length)))) : CallT P f args σ K := by
  obtain ⟨h1, h2⟩ := rdOK_zip ho hrd
  have hm : mvs (θ.map some) σ = σl := by
    rw [← hσ, ← h2]
    unfold mvs
    rw [List.map_map]; rfl
  refine (callT_frame (args := args) (σ := σ) θ hC hd (List.all_eq_true.2 fun n hn => by simpa using h1 n hn) ha hm).mono fun r σ' ⟨r0, σ0, ⟨x, hq, e1, e2⟩, hr, hs⟩ => ?_
  subst e1 e2
  rw [hr, hs, setBack_more _ _ _ _ (hτ x)]
  exact hK x hq

/-! ### rows of bytes -/
theorem bs_len (l : List UInt8) : (bs l).length = l.length := by simp [bs]
theorem bs_app (a b : List UInt8) : bs a ++ bs b = bs (a ++ b) := by simp [bs]
theorem bs_take (n : Nat) (l : List UInt8) : (bs l).take n = bs (l.take n) := by simp [bs, List.map_take]
theorem bs_drop (n : Nat) (l : List UInt8) : (bs l).drop n = bs (l.drop n) := by simp [bs, List.map_drop]
theorem bs_nil : bs [] = [] := rfl
theorem bs_one (b : UInt8) : [[PV.i .u8 b.toNat]] = bs [b] := rfl
theorem bs_at {l : List UInt8} {i : Nat} (h : i < l.length) : (bs l).getD i [] = [.i .u8 (l.getD i 0).toNat] := by
  rw [List.getD_eq_getElem?_getD, bs, List.getElem?_map, List.getElem?_eq_getElem h, List.getD_eq_getElem?_getD, List.getElem?_eq_getElem h]; rfl
theorem bs_ok (l : List UInt8) : (∀ y ∈ bs l, y.length = 1) ∧ ∀ y ∈ bs l, ∀ p ∈ y, PV.one p = true := by
  constructor
  · intro y hy
    obtain ⟨x, _, rfl⟩ := List.mem_map.1 hy
    rfl
  · intro y hy p hp
    obtain ⟨x, _, rfl⟩ := List.mem_map.1 hy
    simp only [List.mem_cons, List.not_mem_nil, or_false] at hp
    subst hp; rfl
theorem bs_ok1 (l : List UInt8) : ∀ y ∈ bs l, y.length = 1 := (bs_ok l).1
theorem bs_ok2 (l : List UInt8) : ∀ y ∈ bs l, ∀ p ∈ y, PV.one p = true := (bs_ok l).2
attribute [go_sem] bytesOf_bs bs_len SV.frc SObj.frc subC
end Go.Nm
