/- append, slice literals, conversions: what they do, by names. -/
import Derived.Test.YteoihmgigmiajaaNm9
import Derived.Laws.AppendOwn
set_option linter.all false
set_option linter.unusedSimpArgs false
set_option linter.unusedVariables false
namespace Go.Nm

def bs (l : List UInt8) : List (List PV) := l.map fun b => [.i .u8 b.toNat]

/-- the elements that a value lends to append or copy -/
def srcOf (σ : Nat → SObj) : SV → Option (List (List PV) × List (Nat × SObj))
  | .u (.fz els _) => some (els, [])
  | .u (.s l) => some (bs l, [])
  | .h n => match σ n with
    | .row T s els => some (els, [(n, .row T s els)])
    | _ => none
  | .sl n _ lo hi => match σ n with
    | .row T s els => some ((els.drop lo).take (hi - lo), [(n, .row T s els)])
    | _ => none
  | _ => none

/-- .. which stand there -/
def srcObs (σ : Nat → SObj) : SV → Prop
  | .sl n sz _ hi => match σ n with
    | .row _ s els => s = sz ∧ hi ≤ els.length
    | _ => False
  | _ => True

structure Src (P : Program) (Φ : Fz) (w : World) (size : Nat) (els : List (List PV)) (x : Value) : Prop where
  ex : ∃ news : List Value, (∀ W : World, (Builtin.lenOf x).run P W = .ok els.length W) ∧ (∀ W : World, W.heap = w.heap → (Builtin.firstCells size els.length x).run P W = .ok news.toArray W) ∧ news.length = els.length * size ∧
    (∀ (i : Nat) e (j : Nat) p u, els[i]? = some e → e[j]? = some p → news[i * size + j]? = some u → VP Φ p u) ∧ ∀ u ∈ news, u.oneCell' = true

theorem cell?_of_heap {w w' : World} (h : w'.heap = w.heap) (a : Addr) : w'.cell? a = w.cell? a := by simp [World.cell?, h]

def PV.one : PV → Bool
  | .agg _ | .tup _ => false
  | _ => true

theorem VP.one {Φ : Fz} {x : PV} {v : Value} (h : VP Φ x v) (hx : x.one = true) : v.oneCell' = true := by
  cases h <;> first | rfl | (simp [PV.one] at hx)

theorem mul_lt_of {i n size j : Nat} (h : i < n) (hj : j < size) : i * size + j < n * size := by
  have : (i + 1) * size ≤ n * size := Nat.mul_le_mul_right _ h
  rw [Nat.succ_mul] at this; omega

theorem src_cells {P : Program} {Φ : Fz} {w : World} {size : Nat} {els : List (List PV)} {A : Option Addr} {cap : Nat} (hsz : ∀ e ∈ els, e.length = size) (hone : ∀ e ∈ els, ∀ p ∈ e, PV.one p = true) (h0 : 0 < size)
    (hc : ∀ (i : Nat) e (j : Nat) p, els[i]? = some e → e[j]? = some p → ∃ ad u, A = some ad ∧ w.cell? (ad.add (i * size + j)) = some u ∧ VP Φ p u) : Src P Φ w size els (.slice A els.length cap) := by
  by_cases hn : els.length = 0
  · have : els = [] := List.eq_nil_of_length_eq_zero hn
    subst this
    refine ⟨[], fun W => by simp [Builtin.lenOf], fun W _ => ?_, by simp, by simp, by simp⟩
    cases A <;> simp [Builtin.firstCells, loadCells, loadCellsFrom]
  · have hlt0 : 0 < els.length := by omega
    have he0 : els[0]? = some els[0] := List.getElem?_eq_getElem hlt0
    have hp0 : els[0][0]? = some (els[0][0]'(by rw [hsz _ (List.getElem_mem hlt0)]; exact h0)) := List.getElem?_eq_getElem _
    obtain ⟨ad, _, rfl, _⟩ := hc 0 _ 0 _ he0 hp0
    have hall : ∀ k, k < els.length * size → ∃ p u, (els[k / size]?).bind (·[k % size]?) = some p ∧ w.cell? (ad.add k) = some u ∧ VP Φ p u ∧ PV.one p = true := by
      intro k hk
      have hi : k / size < els.length := Nat.div_lt_of_lt_mul (by rw [Nat.mul_comm]; exact hk)
      have hj : k % size < els[k / size].length := by rw [hsz _ (List.getElem_mem hi)]; exact Nat.mod_lt _ h0
      have h1 : els[k / size]? = some els[k / size] := List.getElem?_eq_getElem hi
      have h2 : els[k / size][k % size]? = some els[k / size][k % size] := List.getElem?_eq_getElem hj
      obtain ⟨ad', u, h3, h4, h5⟩ := hc _ _ _ _ h1 h2
      cases h3
      refine ⟨_, u, by rw [h1]; exact h2, ?_, h5, hone _ (List.getElem_mem hi) _ (List.getElem_mem hj)⟩
      rw [Nat.mul_comm, Nat.div_add_mod] at h4
      exact h4
    let f : Nat → Value := fun k => (w.cell? (ad.add k)).getD (.bool false)
    have hf : ∀ k, k < els.length * size → w.cell? (ad.add k) = some (f k) := by
      intro k hk
      obtain ⟨p, u, _, h2, _⟩ := hall k hk
      show w.cell? (ad.add k) = some ((w.cell? (ad.add k)).getD (.bool false))
      rw [h2]; rfl
    have hnl : ((List.range (els.length * size)).map f).length = els.length * size := by simp
    refine ⟨(List.range (els.length * size)).map f, fun W => by simp [Builtin.lenOf], fun W hW => ?_, hnl, fun i e j p u h1 h2 h3 => ?_, fun u hu => ?_⟩
    · exact run_firstCells_some (P := P) W size els.length ad els.length cap _ hnl fun j v hj => by
        rw [cell?_of_heap hW]
        rw [List.getElem?_map] at hj
        obtain ⟨k, hk, rfl⟩ := Option.map_eq_some_iff.1 hj
        obtain ⟨hk1, hk2⟩ := List.getElem?_eq_some_iff.1 hk
        simp at hk1 hk2
        subst hk2
        exact hf _ hk1
    · have hi := (List.getElem?_eq_some_iff.1 h1).1
      have hjl := (List.getElem?_eq_some_iff.1 h2).1
      rw [hsz e (List.mem_of_getElem? h1)] at hjl
      have hk := mul_lt_of hi hjl
      rw [List.getElem?_map, List.getElem?_range hk] at h3
      cases h3
      obtain ⟨ad', u', h3, h4, h5⟩ := hc i e j p h1 h2
      cases h3
      show VP Φ p ((w.cell? (ad.add (i * size + j))).getD (.bool false))
      rw [h4]; exact h5
    · obtain ⟨k, hk, rfl⟩ := List.mem_map.1 hu
      have hk := List.mem_range.1 hk
      obtain ⟨p, u, _, h2, h3, h4⟩ := hall k hk
      show ((w.cell? (ad.add k)).getD (.bool false)).oneCell' = true
      rw [h2]; exact h3.one h4

theorem src_ok {P : Program} {w0 : World} {ω0 : Nat → Nat} {β : List Value} {σ : List SObj} {Φ : Fz} {ω : Nat → Nat} {w : World} (hR : Rep w0 ω0 β σ Φ ω w) {σf : Nat → SObj} {x : SV} {v : Value} (hv : V β Φ x v) {els : List (List PV)} {rd : List (Nat × SObj)}
    (h : srcOf σf x = some (els, rd)) (hso : srcObs σf x) (hrd : ∀ n ob, (n, ob) ∈ rd → σ[n]? = some ob) {size : Nat} (h0 : 0 < size) (hsz : ∀ e ∈ els, e.length = size) (hone : ∀ e ∈ els, ∀ p ∈ e, PV.one p = true) : Src P Φ w size els v := by
  unfold srcOf at h
  split at h <;> try cases h
  · obtain ⟨sz, a, cap, f, rfl, q1, q2, q3, q4, q5, q6, q7⟩ := hv.inv_fz
    refine src_cells hsz hone h0 fun i e j p h1 h2 => ?_
    have hlt := (List.getElem?_eq_some_iff.1 h1).1
    obtain ⟨ad, rfl⟩ := Option.isSome_iff_exists.1 (q5 (by omega))
    have hs : sz = size := by rw [← q1 e (List.mem_of_getElem? h1), hsz e (List.mem_of_getElem? h1)]
    subst hs
    exact ⟨ad, _, rfl, Fz.cell_of hR (q6 i e j p ad h1 h2 rfl), q7 i e j p h1 h2⟩
  · rename_i l
    obtain rfl := hv.inv_s
    have hs1 : size = 1 ∨ l = [] := by
      cases l with
      | nil => exact .inr rfl
      | cons b r => exact .inl (hsz [.i .u8 b.toNat] (by simp [bs])).symm
    have hlen : (bs l).length = l.length := by simp [bs]
    have hmap : (ByteArray.mk l.toArray).size = l.length := by simp [ByteArray.size]
    refine ⟨l.map fun b => Value.int .u8 b.toNat, fun W => by simp [Builtin.lenOf, hmap, hlen], fun W _ => ?_, ?_, fun i e j p u h1 h2 h3 => ?_, by simp [Value.oneCell']⟩
    · have hx : (ByteArray.mk l.toArray).extract 0 l.length = ⟨l.toArray⟩ := by rw [ByteArray.extract_mk]; simp
      simp [Builtin.firstCells, hlen, hx]
    · rcases hs1 with rfl | rfl
      · simp [bs]
      · simp [bs]
    · rcases hs1 with rfl | rfl
      · simp only [bs, List.getElem?_map] at h1
        obtain ⟨b, hb, rfl⟩ := Option.map_eq_some_iff.1 h1
        cases j with
        | zero =>
          simp at h2; subst h2
          simp only [Nat.mul_one, Nat.add_zero, List.getElem?_map, hb] at h3
          cases h3
          exact .i _ _
        | succ j => simp at h2
      · simp [bs] at h1
  · rename_i n
    split at h <;> cases h
    rename_i T s hσ
    obtain ⟨v', hβ, hO⟩ := hR.at_ (hrd n (.row T s els) (by simp))
    have hv' := (hv.inv_h).1
    rw [hβ] at hv'
    obtain rfl := Option.some.inj hv'
    rcases hO with ⟨a, rfl, rfl⟩ | ⟨b, cap, cs, rfl, hω, hh, hcs, hcl, hm, he, hj⟩
    · exact src_cells (A := a) (cap := 0) (els := []) hsz hone h0 (by simp)
    · refine src_cells hsz hone h0 fun i e j p h1 h2 => ?_
      have hi := (List.getElem?_eq_some_iff.1 h1).1
      have hjl := (List.getElem?_eq_some_iff.1 h2).1
      have hs : s = size := by rw [← he e (List.mem_of_getElem? h1), hsz e (List.mem_of_getElem? h1)]
      subst hs
      rw [he e (List.mem_of_getElem? h1)] at hjl
      have hb : i * s + j < cs.size := by rw [hcs]; exact mul_lt_of (by omega) hjl
      have hcell : cs[i * s + j]? = some cs[i * s + j] := Array.getElem?_eq_getElem hb
      refine ⟨_, _, rfl, ?_, hj i e j p _ h1 h2 hcell⟩
      rw [Addr.add_lit, Nat.zero_add, cell_of_row w b _ cs T (0, 0) hh, hcell]
  · rename_i n s' lo top
    split at h <;> cases h
    rename_i T s els hσ
    simp only [srcObs, hσ] at hso
    obtain ⟨rfl, htop⟩ := hso
    obtain ⟨v', hβ, hO⟩ := hR.at_ (hrd n (.row T s els) (by simp))
    obtain ⟨a, a', l, c, hβ', rfl, q1, q2, q3⟩ := hv.inv_sl
    rw [hβ] at hβ'
    obtain rfl := Option.some.inj hβ'
    have hlen : ((els.drop lo).take (top - lo)).length = top - lo := by simp; omega
    have := src_cells (P := P) (Φ := Φ) (w := w) (size := size) (els := (els.drop lo).take (top - lo)) (A := some a') (cap := c - lo) hsz hone h0 fun i e j p h1 h2 => by
      have hi := (List.getElem?_eq_some_iff.1 h1).1
      rw [hlen] at hi
      rw [List.getElem?_take, if_pos hi, List.getElem?_drop] at h1
      have hjl := (List.getElem?_eq_some_iff.1 h2).1
      rcases hO with ⟨ax, hvv, rfl⟩ | ⟨b, cap, cs, hvv, hω, hh, hcs, hcl, hm, he, hj⟩
      · simp at h1
      cases hvv
      have hs : s = size := by
        rw [← he e (List.mem_of_getElem? h1)]
        refine hsz e (List.mem_of_getElem? (i := i) ?_)
        rw [List.getElem?_take, if_pos hi, List.getElem?_drop]; exact h1
      subst hs
      rw [he e (List.mem_of_getElem? h1)] at hjl
      have hb : (lo + i) * s + j < cs.size := by rw [hcs]; exact mul_lt_of (by omega) hjl
      have hcell : cs[(lo + i) * s + j]? = some cs[(lo + i) * s + j] := Array.getElem?_eq_getElem hb
      refine ⟨_, _, rfl, ?_, hj (lo + i) e j p _ h1 h2 hcell⟩
      rw [q3 (by omega), add_add, show lo * s + (i * s + j) = (lo + i) * s + j by rw [Nat.add_mul]; omega, Addr.add_lit, Nat.zero_add, cell_of_row w b _ cs T (0, 0) hh, hcell]
    rwa [hlen] at this

/-! ### append -/
theorem run_append_grows {P : Program} {t t2 ty e : TypeId} {i : TypeInfo} {z : Value} (ht : P.underlying t = some (.slice e)) (ht2 : P.underlying t2 = some .string ∨ ∃ e2, P.underlying t2 = some (.slice e2)) (hi : P.info? e = some i) (hz : i.zero = some z) {w : World}
    {base : Option Addr} {sLen sCap m : Nat} {x : Value} {olds news : List Value} (hl : ∀ W : World, (Builtin.lenOf x).run P W = .ok m W)
    (hf : (Builtin.firstCells i.size m x).run P w.drew = .ok news.toArray w.drew) (hfo : (Builtin.firstCells i.size sLen (.slice base sLen sCap)).run P w.drew = .ok olds.toArray w.drew)
    (hg : sCap < sLen + m) (h63 : sLen + m ≤ 9223372036854775807) (hb : (sLen + m) * i.bytes ≤ 140737488355328) :
    (Builtin.append_ #[t, t2] ty #[.slice base sLen sCap, x]).run P w = .ok (.slice (some ⟨w.heap.size, 0, none⟩) (sLen + m) (grownCap w (sLen + m) sCap e))
      (w.drew.alloc (.cells (olds.toArray ++ news.toArray ++ Builtin.zeroCells z.cells (grownCap w (sLen + m) sCap e - (sLen + m))) e)) := by
  have hn : ¬ (sLen + m ≤ sCap) := by omega
  have h63' : ¬ (9223372036854775807 < ((sLen : Int) + (m : Int))) := by omega
  have h48' : ¬ (281474976710656 < Builtin.nextslicecap (sLen + m) sCap * i.bytes) := by have := growslice_fits hg hb; omega
  rcases ht2 with ht2 | ⟨e2, ht2⟩
  all_goals
    simp [Builtin.append_, run_underlying ht, run_underlying ht2, sizeOf, typeInfo, zeroValue, hi, hz, hl, hn, h63', h48', Question.forced, hf, hfo, newRow, grownCap]
    congr 2
    apply Array.ext'
    simp [List.append_assoc]

theorem run_append_fits {P : Program} {t t2 ty e : TypeId} {i : TypeInfo} (ht : P.underlying t = some (.slice e)) (ht2 : P.underlying t2 = some .string ∨ ∃ e2, P.underlying t2 = some (.slice e2)) (hi : P.info? e = some i) {w : World}
    {b sLen sCap m : Nat} {x : Value} {cur : Array Value} {T : TypeId} {news : List Value} (hl : ∀ W : World, (Builtin.lenOf x).run P W = .ok m W) (hf : (Builtin.firstCells i.size m x).run P w = .ok news.toArray w)
    (hh : w.heap[b]? = some (.cells cur T (0, 0))) (h1 : ∀ u ∈ news, u.oneCell' = true) (hroom : sLen + m ≤ sCap) (hfit : sLen * i.size + news.length ≤ cur.size) :
    (Builtin.append_ #[t, t2] ty #[.slice (some ⟨b, 0, none⟩) sLen sCap, x]).run P w = .ok (.slice (some ⟨b, 0, none⟩) (sLen + m) sCap)
      (w.setRow b (cur.toList.take (sLen * i.size + 0) ++ news ++ cur.toList.drop (sLen * i.size + 0 + news.length)).toArray) := by
  have hst := run_storeCells_at (P := P) b (sLen * i.size) T news 0 cur w hh (by simpa using hfit) h1
  rcases ht2 with ht2 | ⟨e2, ht2⟩
  all_goals
    simp [Builtin.append_, run_underlying ht, run_underlying ht2, sizeOf, typeInfo, hi, hl, hroom, hf, Addr.add_lit]
    simp only [Nat.add_zero] at hst
    simp [hst]

theorem run_append_none {P : Program} {t t2 ty e : TypeId} {i : TypeInfo} (ht : P.underlying t = some (.slice e)) (ht2 : P.underlying t2 = some .string ∨ ∃ e2, P.underlying t2 = some (.slice e2)) (hi : P.info? e = some i) {w : World}
    {base : Option Addr} {sLen sCap : Nat} {x : Value} (hl : ∀ W : World, (Builtin.lenOf x).run P W = .ok 0 W) (hf : (Builtin.firstCells i.size 0 x).run P w = .ok #[] w) (hc : sLen ≤ sCap) :
    (Builtin.append_ #[t, t2] ty #[.slice base sLen sCap, x]).run P w = .ok (.slice base sLen sCap) w := by
  rcases ht2 with ht2 | ⟨e2, ht2⟩
  all_goals
    simp [Builtin.append_, run_underlying ht, run_underlying ht2, sizeOf, typeInfo, hi, hl, hf, hc]
    cases base <;> simp [storeCells]

/-- the cells of a grown row -/
theorem grown_get {olds news rest : List Value} {els els2 : List (List PV)} {size : Nat} {Φ : Fz} (h0 : olds.length = els.length * size) (h1 : news.length = els2.length * size)
    (hs1 : ∀ e ∈ els, e.length = size) (hs2 : ∀ e ∈ els2, e.length = size)
    (ho : ∀ (i : Nat) e (j : Nat) p u, els[i]? = some e → e[j]? = some p → olds[i * size + j]? = some u → VP Φ p u) (hn : ∀ (i : Nat) e (j : Nat) p u, els2[i]? = some e → e[j]? = some p → news[i * size + j]? = some u → VP Φ p u) :
    ∀ (i : Nat) e (j : Nat) p u, (els ++ els2)[i]? = some e → e[j]? = some p → (olds ++ news ++ rest)[i * size + j]? = some u → VP Φ p u := by
  intro i e j p u h2 h3 h4
  have hjl := (List.getElem?_eq_some_iff.1 h3).1
  by_cases hi : i < els.length
  · rw [List.getElem?_append_left hi] at h2
    rw [hs1 e (List.mem_of_getElem? h2)] at hjl
    have := mul_lt_of hi hjl
    rw [List.append_assoc, List.getElem?_append_left (by omega)] at h4
    exact ho i e j p u h2 h3 h4
  · rw [List.getElem?_append_right (by omega)] at h2
    rw [hs2 e (List.mem_of_getElem? h2)] at hjl
    have hi2 := (List.getElem?_eq_some_iff.1 h2).1
    have := mul_lt_of hi2 hjl
    have e1 : i * size = els.length * size + (i - els.length) * size := by rw [← Nat.add_mul]; congr 1; omega
    rw [List.append_assoc, List.getElem?_append_right (by omega), List.getElem?_append_left (by omega)] at h4
    refine hn _ e j p u h2 h3 ?_
    rw [← h4]; congr 1; omega

def notIntT (P : Program) (t : TypeId) : Bool :=
  match P.underlying t with
  | some .string => true
  | some (.slice _) => true
  | _ => false

theorem notIntT_inv {P : Program} {t : TypeId} (h : notIntT P t = true) : P.underlying t = some .string ∨ ∃ e, P.underlying t = some (.slice e) := by
  unfold notIntT at h
  split at h <;> try cases h
  · rename_i hd; exact .inl hd
  · rename_i e hd; exact .inr ⟨e, hd⟩

def evAppend (P : Program) (σ : Nat → SObj) (N : Nat) (t t2 : TypeId) (x y : SV) : Ev :=
  match tiOf P t, srcOf σ y with
  | some ti, some (els2, rd2) => match ti.kind with
    | .slice e => match tiOf P e with
      | some eti => match x with
        | .h n => match σ n with
          | .row T s els => .ok ((T = e ∧ s = eti.size ∧ notIntT P t2 = true ∧ 0 < eti.size ∧ eti.zero.length = eti.size) ∧ (els.length + els2.length ≤ 9223372036854775807 ∧ (els.length + els2.length) * eti.bytes ≤ 140737488355328) ∧
                (∀ e ∈ els2, e.length = eti.size) ∧ (∀ e ∈ els2, ∀ p ∈ e, PV.one p = true) ∧ srcObs σ y)
              ([(n, .row T s els), (N, .unborn)] ++ rd2) (.h N) [(n, .dead), (N, .row T s (els ++ els2))]
          | _ => .bad
        | .u (.fz [] (some 0)) => .ok ((notIntT P t2 = true ∧ 0 < eti.size ∧ eti.zero.length = eti.size) ∧ (els2.length ≤ 9223372036854775807 ∧ els2.length * eti.bytes ≤ 140737488355328) ∧
                (∀ e ∈ els2, e.length = eti.size) ∧ (∀ e ∈ els2, ∀ p ∈ e, PV.one p = true) ∧ srcObs σ y)
              ([(N, .unborn)] ++ rd2) (.h N) [(N, .row e eti.size els2)]
        | .u (.fz els (some c)) => .ok ((notIntT P t2 = true ∧ 0 < eti.size ∧ eti.zero.length = eti.size) ∧ (els.length + els2.length ≤ 9223372036854775807 ∧ (els.length + els2.length) * eti.bytes ≤ 140737488355328) ∧
                (∀ e ∈ els2, e.length = eti.size) ∧ (∀ e ∈ els2, ∀ p ∈ e, PV.one p = true) ∧ (∀ e ∈ els, e.length = eti.size) ∧ (∀ e ∈ els, ∀ p ∈ e, PV.one p = true) ∧ (c < els.length + els2.length ∨ els2.length = 0) ∧ srcObs σ y)
              rd2 (.u (.fz (els ++ els2) none)) []
        | .sl n sz lo hi => match σ n with
          | .row T s els => .ok ((T = e ∧ s = eti.size ∧ sz = s ∧ notIntT P t2 = true ∧ 0 < eti.size) ∧ hi + els2.length ≤ els.length ∧
                (∀ e ∈ els2, e.length = eti.size) ∧ (∀ e ∈ els2, ∀ p ∈ e, PV.one p = true) ∧ srcObs σ y)
              ([(n, .row T s els)] ++ rd2) (.sl n sz lo (hi + els2.length)) [(n, .row T s (els.take hi ++ els2 ++ els.drop (hi + els2.length)))]
          | _ => .bad
        | _ => .bad
      | none => .bad
    | _ => .bad
  | _, _ => .bad

theorem row_grown {P : Program} {w0 : World} {ω0 : Nat → Nat} {β : List Value} {σ : List SObj} {Φ : Fz} {ω : Nat → Nat} {w : World} (hR : Rep w0 ω0 β σ Φ ω w) {N : Nat} (hN : σ[N]? = some .unborn) {e : TypeId} {size cap : Nat} {els : List (List PV)} {cs : Array Value}
    (hcs : cs.size = cap * size) (hl : els.length ≤ cap) (hm : cap ≤ maxLen) (hs : ∀ x ∈ els, x.length = size) (hj : ∀ (i : Nat) x (j : Nat) p u, els[i]? = some x → x[j]? = some p → cs[i * size + j]? = some u → VP Φ p u) :
    ∃ ω' β', BExt β β' ∧ β'.length = β.length ∧ V β' Φ (.h N) (.slice (some ⟨w.heap.size, 0, none⟩) els.length cap) ∧ Rep w0 ω0 β' (σ.set N (.row e size els)) Φ ω' (w.alloc (.cells cs e)) := by
  obtain ⟨ω', h1, h2, h3, h4⟩ := hR.born hN (.cells cs e) (.row e size els) (.slice (some ⟨w.heap.size, 0, none⟩) els.length cap) fun ω' β' hω hext =>
    .inr ⟨w.heap.size, cap, cs, rfl, hω, heap_alloc_new w _, hcs, hl, hm, hs, hj⟩
  exact ⟨ω', _, h1, h2, .h N _ h3 rfl, h4⟩

end Go.Nm
