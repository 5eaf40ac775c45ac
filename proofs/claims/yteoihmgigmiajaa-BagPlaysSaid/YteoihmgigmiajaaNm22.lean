/- What comes in, as values that nobody writes; a contract at the top. -/
import Derived.Test.YteoihmgigmiajaaNm21
import Derived.Deep.Slices
import Derived.Below
set_option linter.all false
set_option linter.unusedSimpArgs false
set_option linter.unusedVariables false
namespace Go.Nm
open Go.ChangeShapes Go.WideShapes Go.Deep Go.RowKit

/-- all that stands at the start is never written -/
def fz0 (w : World) : Fz := fun b => w.heap[b]?

theorem fz0_cell {w : World} {a : Addr} {v : Value} (h : w.cell? a = some v) : (fz0 w).cell a = some v := h

def Opens {H : Type} (enc : TypeId × Value → H) (P : Program) (w : World) (base : Nat) (spare : Nat → Bool) (held : Bool) (t : TypeId) {X : Type} (f : X → List PV) (Q : X → Prop) : Prop :=
  ∀ (fuel : Nat) (cs : List Value) (x : DataW H × List MemPlace), DataW.trod enc P w base spare held fuel t cs = some x → ∃ y, Q y ∧ cs.length = (f y).length ∧ ∀ (j : Nat) p v, (f y)[j]? = some p → cs[j]? = some v → VP (fz0 w) p v

section
variable {H : Type} {enc : TypeId × Value → H} {P : Program} {w : World} {base : Nat} {spare : Nat → Bool} {held : Bool}

theorem opens_int {t : TypeId} {k : IntKind} (ht : P.underlying t = some (.int k)) : Opens enc P w base spare held t (fun n : Int => [.i k n]) fun n => (Lit.int k n).wf = true := by
  intro fuel cs x h
  obtain ⟨n, rfl, _, hw⟩ := DataW.trod_int ht h
  refine ⟨n, hw, rfl, fun j p v hp hv => ?_⟩
  cases j with
  | zero => simp at hp hv; subst hp hv; exact .i _ _
  | succ j => simp at hp

theorem opens_bool {t : TypeId} (ht : P.underlying t = some .bool) : Opens enc P w base spare held t (fun b : Bool => [.b b]) fun _ => True := by
  intro fuel cs x h
  obtain ⟨b, rfl, _⟩ := DataW.trod_bool ht h
  refine ⟨b, trivial, rfl, fun j p v hp hv => ?_⟩
  cases j with
  | zero => simp at hp hv; subst hp hv; exact .b _
  | succ j => simp at hp

theorem opens_string {t : TypeId} (ht : P.underlying t = some .string) : Opens enc P w base spare held t (fun l : List UInt8 => [.s l]) fun l => l.length ≤ maxLen := by
  intro fuel cs x h
  obtain ⟨s, rfl, _, hs⟩ := DataW.trod_string ht h
  refine ⟨s.data.toList, by simpa using hs, rfl, fun j p v hp hv => ?_⟩
  cases j with
  | zero =>
    simp at hp hv; subst hp hv
    have : Value.string s = .string ⟨s.data.toList.toArray⟩ := by simp
    rw [this]; exact .s _
  | succ j => simp at hp

theorem opens_slice {t e : TypeId} {sz : Nat} {X : Type} [Inhabited X] {f : X → List PV} {Q : X → Prop} (ht : P.underlying t = some (.slice e)) (hc : P.cellsOf e = sz) (he : Opens enc P w base spare held e f Q) :
    Opens enc P w base spare held t (fun xs : List X => [.fz (xs.map f) none]) fun xs => (∀ x ∈ xs, Q x) ∧ xs.length ≤ maxLen := by
  intro fuel cs x h
  rcases open_slice ht h with ⟨rfl, _⟩ | ⟨a, len, cap, m, n, D, Pl, rfl, hb, hl, hm, hmm, rfl, hx⟩
  · refine ⟨[], ⟨by simp, by simp⟩, rfl, fun j p v hp hv => ?_⟩
    cases j with
    | zero =>
      simp at hp hv; subst hp hv
      exact .fz 0 [] none none 0 (fun _ _ => .bool false) (by simp) (Nat.le_refl _) (Nat.zero_le _) (by simp) (by simp) (by simp) (by simp)
    | succ j => simp at hp
  · have hlm : len ≤ m := by rw [hmm]; split <;> omega
    obtain ⟨Y, hY⟩ := choose_lt (n := len) (p := fun i (y : X × List Value) => w.cells? base (a.add (i * P.cellsOf e)) (P.cellsOf e) = some y.2 ∧ Q y.1 ∧ y.2.length = (f y.1).length ∧ ∀ (j : Nat) p v, (f y.1)[j]? = some p → y.2[j]? = some v → VP (fz0 w) p v) (fun i hi => by
      obtain ⟨cs', h1, h2⟩ := hx i (by omega)
      obtain ⟨y, h3, h4, h5⟩ := he _ _ _ h2
      exact ⟨(y, cs'), h1, h3, h4, h5⟩)
    refine ⟨(List.range len).map fun i => (Y i).1, ⟨fun x hx => ?_, by simp; omega⟩, rfl, fun j p v hp hv => ?_⟩
    · obtain ⟨i, hi, rfl⟩ := List.mem_map.1 hx
      exact (hY i (List.mem_range.1 hi)).2.1
    cases j with
    | succ j => simp at hp
    | zero =>
      simp only [List.getElem?_cons_zero, Option.some.injEq] at hp hv
      subst hp hv
      have hlen : (((List.range len).map fun i => (Y i).1).map f).length = len := by simp
      have hget : ∀ (i : Nat) el, (((List.range len).map fun i => (Y i).1).map f)[i]? = some el → i < len ∧ el = f (Y i).1 := by
        intro i el h
        have hi := (List.getElem?_eq_some_iff.1 h).1
        rw [hlen] at hi
        simp [hi] at h
        exact ⟨hi, h.symm⟩
      have key := VP.fz (Φ := fz0 w) sz (((List.range len).map fun i => (Y i).1).map f) none (some a) cap (fun i j => (Y i).2.getD j (.bool false)) (fun el hel => ?_) (by rw [hlen]; exact hl) hm (by simp) (fun _ => rfl) (fun i el j x ad h1 h2 h3 => ?_) (fun i el j x h1 h2 => ?_)
      · rw [hlen] at key; exact key
      · obtain ⟨i, hi⟩ := List.getElem?_of_mem hel
        obtain ⟨h1, rfl⟩ := hget i _ hi
        obtain ⟨k1, _, k3, _⟩ := hY i h1
        have := (World.cells?_some k1).2.1
        omega
      · cases h3
        obtain ⟨hi, rfl⟩ := hget i _ h1
        obtain ⟨k1, _, k3, _⟩ := hY i hi
        have hj := (List.getElem?_eq_some_iff.1 h2).1
        have hcj : (Y i).2[j]? = some ((Y i).2.getD j (.bool false)) := by
          rw [List.getD_eq_getElem?_getD, List.getElem?_eq_getElem (by omega)]; rfl
        have hcell := (World.cells?_some k1).2.2
        refine fz0_cell ?_
        rw [← hc, ← add_add]
        first
          | exact hcell j _ hcj
          | (rw [hcell j (by have := (World.cells?_some k1).2.1; omega)]; exact hcj)
      · obtain ⟨hi, rfl⟩ := hget i _ h1
        obtain ⟨_, _, k3, k4⟩ := hY i hi
        have hj := (List.getElem?_eq_some_iff.1 h2).1
        exact k4 j x _ h2 (by rw [List.getD_eq_getElem?_getD, List.getElem?_eq_getElem (by omega)]; rfl)

def OpensF {H : Type} (enc : TypeId × Value → H) (P : Program) (w : World) (base : Nat) (spare : Nat → Bool) (held : Bool) (fs : List Field) (off : Nat) {X : Type} (f : X → List PV) (Q : X → Prop) : Prop :=
  ∀ cs : List Value, (∀ (i : Nat) fd, fs[i]? = some fd → ∃ n x, DataW.trod enc P w base spare held n fd.type ((cs.drop fd.offset).take (P.cellsOf fd.type)) = some x) →
    ∃ y, Q y ∧ ∀ (j : Nat) p v, (f y)[j]? = some p → cs[off + j]? = some v → VP (fz0 w) p v

theorem opensF_one {off : Nat} {fd : Field} {n : Nat} {X : Type} {f : X → List PV} {Q : X → Prop} (ho : fd.offset = off) (hn : P.cellsOf fd.type = n) (hf : ∀ y, (f y).length = n) (h : Opens enc P w base spare held fd.type f Q) : OpensF enc P w base spare held [fd] off f Q := by
  intro cs hall
  obtain ⟨k, x, hx⟩ := hall 0 fd rfl
  obtain ⟨y, hq, hl, hy⟩ := h _ _ _ hx
  refine ⟨y, hq, fun j p v hp hv => hy j p v hp ?_⟩
  have hj := (List.getElem?_eq_some_iff.1 hp).1
  rw [hf] at hj
  rw [hn, List.getElem?_take_of_lt hj, List.getElem?_drop, ho]; exact hv

theorem opensF_cons {off : Nat} {fd : Field} {n : Nat} {rest : List Field} {X X2 : Type} {f : X → List PV} {f2 : X2 → List PV} {Q : X → Prop} {Q2 : X2 → Prop} (ho : fd.offset = off) (hn : P.cellsOf fd.type = n) (hf : ∀ y, (f y).length = n) (h : Opens enc P w base spare held fd.type f Q)
    (h2 : OpensF enc P w base spare held rest (off + n) f2 Q2) : OpensF enc P w base spare held (fd :: rest) off (fun y : X × X2 => f y.1 ++ f2 y.2) fun y => Q y.1 ∧ Q2 y.2 := by
  intro cs hall
  obtain ⟨y, hq, hy⟩ := opensF_one (off := off) ho hn hf h cs (fun i fd' hi => by
    cases i with
    | zero => simp at hi; subst hi; exact hall 0 fd rfl
    | succ i => simp at hi)
  obtain ⟨y2, hq2, hy2⟩ := h2 cs fun i fd' hi => hall (i + 1) fd' (by simpa using hi)
  refine ⟨(y, y2), ⟨hq, hq2⟩, fun j p v hp hv => ?_⟩
  simp only at hp
  by_cases hj : j < (f y).length
  · rw [List.getElem?_append_left hj] at hp
    exact hy j p v hp hv
  · rw [List.getElem?_append_right (by omega)] at hp
    refine hy2 _ p v hp ?_
    rw [hf] at hj ⊢
    rw [show off + n + (j - n) = off + j by omega]; exact hv

theorem opens_struct {t : TypeId} {fs : Array Field} {n : Nat} {X : Type} {f : X → List PV} {Q : X → Prop} (ht : P.underlying t = some (.struct fs)) (hn : P.cellsOf t = n) (hf : ∀ y, (f y).length = n) (h : OpensF enc P w base spare held fs.toList 0 f Q) : Opens enc P w base spare held t f Q := by
  intro fuel cs x hx
  obtain ⟨xs, k, _, _, hl, hxl, hall⟩ := DataW.trod_struct ht hx
  obtain ⟨y, hq, hy⟩ := h cs fun i fd hi => by
    have hi' : fs[i]? = some fd := by simpa using hi
    have hlt := (Array.getElem?_eq_some_iff.1 hi').1
    have := hall i fd hi'
    rw [List.getElem?_eq_getElem (by omega)] at this
    exact ⟨k, _, this⟩
  exact ⟨y, hq, by rw [hl, hn, hf], fun j p v hp hv => hy j p v hp (by rw [Nat.zero_add]; exact hv)⟩

theorem Opens.map {t : TypeId} {X Y : Type} {f : X → List PV} {Q : X → Prop} (h : Opens enc P w base spare held t f Q) (g : X → Y) {f' : Y → List PV} {Q' : Y → Prop} (hf : ∀ x, f' (g x) = f x) (hQ : ∀ x, Q x → Q' (g x)) : Opens enc P w base spare held t f' Q' := by
  intro fuel cs x hx
  obtain ⟨y, h1, h2, h3⟩ := h fuel cs x hx
  exact ⟨g y, hQ y h1, by rw [hf]; exact h2, by rw [hf]; exact h3⟩

/-- one cell that came in -/
theorem Opens.one {t : TypeId} {X : Type} {f : X → PV} {Q : X → Prop} {v : Value} {d : DataW H} {ps : List MemPlace} (h : Opens enc P w base spare held t (fun x => [f x]) Q) (hd : DataW.Trod enc P w base spare held t v d ps) (hv : v.cells = #[v]) : ∃ y, Q y ∧ VP (fz0 w) (f y) v := by
  obtain ⟨fuel, hf⟩ := hd
  obtain ⟨y, h1, h2, h3⟩ := h _ _ _ hf
  exact ⟨y, h1, h3 0 _ _ rfl (by rw [hv]; rfl)⟩
end

/-- a contract at the top: nothing that was there is written -/
theorem calls_top {P : Program} {f : FuncId} {al : List SV} {r : PV} {rv : Value} {w : World} (hC : CallT P f al [] fun x σ => x = .u r ∧ σ = []) (args : List Value) (hl : args.length = al.length) (hr : ∀ Φ v, VP Φ r v → v = rv)
    (hv : ∀ (j : Nat) x v, al[j]? = some x → args[j]? = some v → V [] (fz0 w) x v) : Calls P f args.toArray w fun e w' => e = .returned rv ∧ Below w.heap.size w w' := by
  have hR : Rep w (fun b => if b < w.heap.size then 1 else 0) [] [] (fz0 w) (fun b => if b < w.heap.size then 1 else 0) w := by
    refine ⟨rfl, rfl, rfl, Nat.le_refl _, fun b hb h0 => ?_, fun b o hb => ?_, fun b hb => ?_, rfl, fun n ob v hn _ => by simp at hn⟩
    · simp [hb] at h0
    · have := (Array.getElem?_eq_some_iff.1 (show w.heap[b]? = some o from hb)).1
      exact ⟨by rw [if_pos this], hb⟩
    · by_cases h : b < w.heap.size
      · exact h
      · simp [h] at hb
  refine (hC w _ [] (fz0 w) _ w args hR hl hv).mono fun e w' ⟨x, v, β', σ', Φ', ω', he, _, hle, hvx, hR', _, hx, _⟩ => ?_
  subst hx
  cases hvx with | u _ _ hp =>
  refine ⟨by rw [he, hr _ _ hp], hR'.os, hR'.tape, hR'.output, hR'.size, fun k hk => ?_⟩
  have hb : (fz0 w) k = some w.heap[k] := Array.getElem?_eq_getElem hk
  rw [(hR'.fz k _ (hle k _ hb)).2]
  exact hb.symm
end Go.Nm
