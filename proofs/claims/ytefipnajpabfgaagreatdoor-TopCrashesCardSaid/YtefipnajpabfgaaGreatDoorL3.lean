/- Part 3 of the proof: what functions of the program do, and plain facts on what they compute. -/
import Derived.Test.YtefipnajpabfgaaGreatDoorL2
import Derived.Laws.AppendOwn
import Derived.Laws.IdiomStrings
set_option linter.all false
set_option maxRecDepth 40000
set_option maxHeartbeats 16000000
set_option linter.unusedSimpArgs false
set_option linter.unusedVariables false
/- append, slice literals, conversions: what they do, by names. -/
namespace Go.Nm

def bs (l : List UInt8) : List (List PV) := l.map fun b => [.i .u8 b.toNat]

/-- the elements that a value lends to append or copy -/
def srcOf (σ : Nat → SObj) : SV → Option (List (List PV) × List (Nat × SObj))
  | .u (.fz els _) => some (els, [])
  | .u (.s l) => some (bs l, [])
  | .h n => match σ n with
    | .row T s els => some (els, [(n, .row T s els)])
    | _ => none
  | .sl n _ lo hi => match σ n with
    | .row T s els => some ((els.drop lo).take (hi - lo), [(n, .row T s els)])
    | _ => none
  | _ => none

/-- .. which stand there -/
def srcObs (σ : Nat → SObj) : SV → Prop
  | .sl n sz _ hi => match σ n with
    | .row _ s els => s = sz ∧ hi ≤ els.length
    | _ => False
  | _ => True

structure Src (P : Program) (Φ : Fz) (w : World) (size : Nat) (els : List (List PV)) (x : Value) : Prop where
  ex : ∃ news : List Value, (∀ W : World, (Builtin.lenOf x).run P W = .ok els.length W) ∧ (∀ W : World, W.heap = w.heap → (Builtin.firstCells size els.length x).run P W = .ok news.toArray W) ∧ news.length = els.length * size ∧
    (∀ (i : Nat) e (j : Nat) p u, els[i]? = some e → e[j]? = some p → news[i * size + j]? = some u → VP Φ p u) ∧ ∀ u ∈ news, u.oneCell' = true

theorem cell?_of_heap {w w' : World} (h : w'.heap = w.heap) (a : Addr) : w'.cell? a = w.cell? a := by simp [World.cell?, h]

def PV.one : PV → Bool
  | .agg _ | .tup _ => false
  | _ => true

theorem VP.one {Φ : Fz} {x : PV} {v : Value} (h : VP Φ x v) (hx : x.one = true) : v.oneCell' = true := by
  cases h <;> first | rfl | (simp [PV.one] at hx)

theorem mul_lt_of {i n size j : Nat} (h : i < n) (hj : j < size) : i * size + j < n * size := by
  have : (i + 1) * size ≤ n * size := Nat.mul_le_mul_right _ h
  rw [Nat.succ_mul] at this; omega

theorem src_cells {P : Program} {Φ : Fz} {w : World} {size : Nat} {els : List (List PV)} {A : Option Addr} {cap : Nat} (hsz : ∀ e ∈ els, e.length = size) (hone : ∀ e ∈ els, ∀ p ∈ e, PV.one p = true) (h0 : 0 < size)
    (hc : ∀ (i : Nat) e (j : Nat) p, els[i]? = some e → e[j]? = some p → ∃ ad u, A = some ad ∧ w.cell? (ad.add (i * size + j)) = some u ∧ VP Φ p u) : Src P Φ w size els (.slice A els.length cap) := by
  by_cases hn : els.length = 0
  · have : els = [] := List.eq_nil_of_length_eq_zero hn
    subst this
    refine ⟨[], fun W => by simp [Builtin.lenOf], fun W _ => ?_, by simp, by simp, by simp⟩
    cases A <;> simp [Builtin.firstCells, loadCells, loadCellsFrom]
  · have hlt0 : 0 < els.length := by omega
    have he0 : els[0]? = some els[0] := List.getElem?_eq_getElem hlt0
    have hp0 : els[0][0]? = some (els[0][0]'(by rw [hsz _ (List.getElem_mem hlt0)]; exact h0)) := List.getElem?_eq_getElem _
    obtain ⟨ad, _, rfl, _⟩ := hc 0 _ 0 _ he0 hp0
    have hall : ∀ k, k < els.length * size → ∃ p u, (els[k / size]?).bind (·[k % size]?) = some p ∧ w.cell? (ad.add k) = some u ∧ VP Φ p u ∧ PV.one p = true := by
      intro k hk
      have hi : k / size < els.length := Nat.div_lt_of_lt_mul (by rw [Nat.mul_comm]; exact hk)
      have hj : k % size < els[k / size].length := by rw [hsz _ (List.getElem_mem hi)]; exact Nat.mod_lt _ h0
      have h1 : els[k / size]? = some els[k / size] := List.getElem?_eq_getElem hi
      have h2 : els[k / size][k % size]? = some els[k / size][k % size] := List.getElem?_eq_getElem hj
      obtain ⟨ad', u, h3, h4, h5⟩ := hc _ _ _ _ h1 h2
      cases h3
      refine ⟨_, u, by rw [h1]; exact h2, ?_, h5, hone _ (List.getElem_mem hi) _ (List.getElem_mem hj)⟩
      rw [Nat.mul_comm, Nat.div_add_mod] at h4
      exact h4
    let f : Nat → Value := fun k => (w.cell? (ad.add k)).getD (.bool false)
    have hf : ∀ k, k < els.length * size → w.cell? (ad.add k) = some (f k) := by
      intro k hk
      obtain ⟨p, u, _, h2, _⟩ := hall k hk
      show w.cell? (ad.add k) = some ((w.cell? (ad.add k)).getD (.bool false))
      rw [h2]; rfl
    have hnl : ((List.range (els.length * size)).map f).length = els.length * size := by simp
    refine ⟨(List.range (els.length * size)).map f, fun W => by simp [Builtin.lenOf], fun W hW => ?_, hnl, fun i e j p u h1 h2 h3 => ?_, fun u hu => ?_⟩
    · exact run_firstCells_some (P := P) W size els.length ad els.length cap _ hnl fun j v hj => by
        rw [cell?_of_heap hW]
        rw [List.getElem?_map] at hj
        obtain ⟨k, hk, rfl⟩ := Option.map_eq_some_iff.1 hj
        obtain ⟨hk1, hk2⟩ := List.getElem?_eq_some_iff.1 hk
        simp at hk1 hk2
        subst hk2
        exact hf _ hk1
    · have hi := (List.getElem?_eq_some_iff.1 h1).1
      have hjl := (List.getElem?_eq_some_iff.1 h2).1
      rw [hsz e (List.mem_of_getElem? h1)] at hjl
      have hk := mul_lt_of hi hjl
      rw [List.getElem?_map, List.getElem?_range hk] at h3
      cases h3
      obtain ⟨ad', u', h3, h4, h5⟩ := hc i e j p h1 h2
      cases h3
      show VP Φ p ((w.cell? (ad.add (i * size + j))).getD (.bool false))
      rw [h4]; exact h5
    · obtain ⟨k, hk, rfl⟩ := List.mem_map.1 hu
      have hk := List.mem_range.1 hk
      obtain ⟨p, u, _, h2, h3, h4⟩ := hall k hk
      show ((w.cell? (ad.add k)).getD (.bool false)).oneCell' = true
      rw [h2]; exact h3.one h4

theorem src_ok {P : Program} {w0 : World} {ω0 : Nat → Nat} {β : List Value} {σ : List SObj} {Φ : Fz} {ω : Nat → Nat} {w : World} (hR : Rep w0 ω0 β σ Φ ω w) {σf : Nat → SObj} {x : SV} {v : Value} (hv : V β Φ x v) {els : List (List PV)} {rd : List (Nat × SObj)}
    (h : srcOf σf x = some (els, rd)) (hso : srcObs σf x) (hrd : ∀ n ob, (n, ob) ∈ rd → σ[n]? = some ob) {size : Nat} (h0 : 0 < size) (hsz : ∀ e ∈ els, e.length = size) (hone : ∀ e ∈ els, ∀ p ∈ e, PV.one p = true) : Src P Φ w size els v := by
  unfold srcOf at h
  split at h <;> try cases h
  · obtain ⟨sz, a, cap, f, rfl, q1, q2, q3, q4, q5, q6, q7⟩ := hv.inv_fz
    refine src_cells hsz hone h0 fun i e j p h1 h2 => ?_
    have hlt := (List.getElem?_eq_some_iff.1 h1).1
    obtain ⟨ad, rfl⟩ := Option.isSome_iff_exists.1 (q5 (by omega))
    have hs : sz = size := by rw [← q1 e (List.mem_of_getElem? h1), hsz e (List.mem_of_getElem? h1)]
    subst hs
    exact ⟨ad, _, rfl, Fz.cell_of hR (q6 i e j p ad h1 h2 rfl), q7 i e j p h1 h2⟩
  · rename_i l
    obtain rfl := hv.inv_s
    have hs1 : size = 1 ∨ l = [] := by
      cases l with
      | nil => exact .inr rfl
      | cons b r => exact .inl (hsz [.i .u8 b.toNat] (by simp [bs])).symm
    have hlen : (bs l).length = l.length := by simp [bs]
    have hmap : (ByteArray.mk l.toArray).size = l.length := by simp [ByteArray.size]
    refine ⟨l.map fun b => Value.int .u8 b.toNat, fun W => by simp [Builtin.lenOf, hmap, hlen], fun W _ => ?_, ?_, fun i e j p u h1 h2 h3 => ?_, by simp [Value.oneCell']⟩
    · have hx : (ByteArray.mk l.toArray).extract 0 l.length = ⟨l.toArray⟩ := by rw [ByteArray.extract_mk]; simp
      simp [Builtin.firstCells, hlen, hx]
    · rcases hs1 with rfl | rfl
      · simp [bs]
      · simp [bs]
    · rcases hs1 with rfl | rfl
      · simp only [bs, List.getElem?_map] at h1
        obtain ⟨b, hb, rfl⟩ := Option.map_eq_some_iff.1 h1
        cases j with
        | zero =>
          simp at h2; subst h2
          simp only [Nat.mul_one, Nat.add_zero, List.getElem?_map, hb] at h3
          cases h3
          exact .i _ _
        | succ j => simp at h2
      · simp [bs] at h1
  · rename_i n
    split at h <;> cases h
    rename_i T s hσ
    obtain ⟨v', hβ, hO⟩ := hR.at_ (hrd n (.row T s els) (by simp))
    have hv' := (hv.inv_h).1
    rw [hβ] at hv'
    obtain rfl := Option.some.inj hv'
    rcases hO with ⟨a, rfl, rfl⟩ | ⟨b, cap, cs, rfl, hω, hh, hcs, hcl, hm, he, hj⟩
    · exact src_cells (A := a) (cap := 0) (els := []) hsz hone h0 (by simp)
    · refine src_cells hsz hone h0 fun i e j p h1 h2 => ?_
      have hi := (List.getElem?_eq_some_iff.1 h1).1
      have hjl := (List.getElem?_eq_some_iff.1 h2).1
      have hs : s = size := by rw [← he e (List.mem_of_getElem? h1), hsz e (List.mem_of_getElem? h1)]
      subst hs
      rw [he e (List.mem_of_getElem? h1)] at hjl
      have hb : i * s + j < cs.size := by rw [hcs]; exact mul_lt_of (by omega) hjl
      have hcell : cs[i * s + j]? = some cs[i * s + j] := Array.getElem?_eq_getElem hb
      refine ⟨_, _, rfl, ?_, hj i e j p _ h1 h2 hcell⟩
      rw [Addr.add_lit, Nat.zero_add, cell_of_row w b _ cs T (0, 0) hh, hcell]
  · rename_i n s' lo top
    split at h <;> cases h
    rename_i T s els hσ
    simp only [srcObs, hσ] at hso
    obtain ⟨rfl, htop⟩ := hso
    obtain ⟨v', hβ, hO⟩ := hR.at_ (hrd n (.row T s els) (by simp))
    obtain ⟨a, a', l, c, hβ', rfl, q1, q2, q3⟩ := hv.inv_sl
    rw [hβ] at hβ'
    obtain rfl := Option.some.inj hβ'
    have hlen : ((els.drop lo).take (top - lo)).length = top - lo := by simp; omega
    have := src_cells (P := P) (Φ := Φ) (w := w) (size := size) (els := (els.drop lo).take (top - lo)) (A := some a') (cap := c - lo) hsz hone h0 fun i e j p h1 h2 => by
      have hi := (List.getElem?_eq_some_iff.1 h1).1
      rw [hlen] at hi
      rw [List.getElem?_take, if_pos hi, List.getElem?_drop] at h1
      have hjl := (List.getElem?_eq_some_iff.1 h2).1
      rcases hO with ⟨ax, hvv, rfl⟩ | ⟨b, cap, cs, hvv, hω, hh, hcs, hcl, hm, he, hj⟩
      · simp at h1
      cases hvv
      have hs : s = size := by
        rw [← he e (List.mem_of_getElem? h1)]
        refine hsz e (List.mem_of_getElem? (i := i) ?_)
        rw [List.getElem?_take, if_pos hi, List.getElem?_drop]; exact h1
      subst hs
      rw [he e (List.mem_of_getElem? h1)] at hjl
      have hb : (lo + i) * s + j < cs.size := by rw [hcs]; exact mul_lt_of (by omega) hjl
      have hcell : cs[(lo + i) * s + j]? = some cs[(lo + i) * s + j] := Array.getElem?_eq_getElem hb
      refine ⟨_, _, rfl, ?_, hj (lo + i) e j p _ h1 h2 hcell⟩
      rw [q3 (by omega), add_add, show lo * s + (i * s + j) = (lo + i) * s + j by rw [Nat.add_mul]; omega, Addr.add_lit, Nat.zero_add, cell_of_row w b _ cs T (0, 0) hh, hcell]
    rwa [hlen] at this

/-! ### append -/
theorem run_append_grows {P : Program} {t t2 ty e : TypeId} {i : TypeInfo} {z : Value} (ht : P.underlying t = some (.slice e)) (ht2 : P.underlying t2 = some .string ∨ ∃ e2, P.underlying t2 = some (.slice e2)) (hi : P.info? e = some i) (hz : i.zero = some z) {w : World}
    {base : Option Addr} {sLen sCap m : Nat} {x : Value} {olds news : List Value} (hl : ∀ W : World, (Builtin.lenOf x).run P W = .ok m W)
    (hf : (Builtin.firstCells i.size m x).run P w.drew = .ok news.toArray w.drew) (hfo : (Builtin.firstCells i.size sLen (.slice base sLen sCap)).run P w.drew = .ok olds.toArray w.drew)
    (hg : sCap < sLen + m) (h63 : sLen + m ≤ 9223372036854775807) (hb : (sLen + m) * i.bytes ≤ 140737488355328) :
    (Builtin.append_ #[t, t2] ty #[.slice base sLen sCap, x]).run P w = .ok (.slice (some ⟨w.heap.size, 0, none⟩) (sLen + m) (grownCap w (sLen + m) sCap e))
      (w.drew.alloc (.cells (olds.toArray ++ news.toArray ++ Builtin.zeroCells z.cells (grownCap w (sLen + m) sCap e - (sLen + m))) e)) := by
  have hn : ¬ (sLen + m ≤ sCap) := by omega
  have h63' : ¬ (9223372036854775807 < ((sLen : Int) + (m : Int))) := by omega
  have h48' : ¬ (281474976710656 < Builtin.nextslicecap (sLen + m) sCap * i.bytes) := by have := growslice_fits hg hb; omega
  rcases ht2 with ht2 | ⟨e2, ht2⟩
  all_goals
    simp [Builtin.append_, run_underlying ht, run_underlying ht2, sizeOf, typeInfo, zeroValue, hi, hz, hl, hn, h63', h48', Question.forced, hf, hfo, newRow, grownCap]
    congr 2
    apply Array.ext'
    simp [List.append_assoc]

theorem run_append_fits {P : Program} {t t2 ty e : TypeId} {i : TypeInfo} (ht : P.underlying t = some (.slice e)) (ht2 : P.underlying t2 = some .string ∨ ∃ e2, P.underlying t2 = some (.slice e2)) (hi : P.info? e = some i) {w : World}
    {b sLen sCap m : Nat} {x : Value} {cur : Array Value} {T : TypeId} {news : List Value} (hl : ∀ W : World, (Builtin.lenOf x).run P W = .ok m W) (hf : (Builtin.firstCells i.size m x).run P w = .ok news.toArray w)
    (hh : w.heap[b]? = some (.cells cur T (0, 0))) (h1 : ∀ u ∈ news, u.oneCell' = true) (hroom : sLen + m ≤ sCap) (hfit : sLen * i.size + news.length ≤ cur.size) :
    (Builtin.append_ #[t, t2] ty #[.slice (some ⟨b, 0, none⟩) sLen sCap, x]).run P w = .ok (.slice (some ⟨b, 0, none⟩) (sLen + m) sCap)
      (w.setRow b (cur.toList.take (sLen * i.size + 0) ++ news ++ cur.toList.drop (sLen * i.size + 0 + news.length)).toArray) := by
  have hst := run_storeCells_at (P := P) b (sLen * i.size) T news 0 cur w hh (by simpa using hfit) h1
  rcases ht2 with ht2 | ⟨e2, ht2⟩
  all_goals
    simp [Builtin.append_, run_underlying ht, run_underlying ht2, sizeOf, typeInfo, hi, hl, hroom, hf, Addr.add_lit]
    simp only [Nat.add_zero] at hst
    simp [hst]

theorem run_append_none {P : Program} {t t2 ty e : TypeId} {i : TypeInfo} (ht : P.underlying t = some (.slice e)) (ht2 : P.underlying t2 = some .string ∨ ∃ e2, P.underlying t2 = some (.slice e2)) (hi : P.info? e = some i) {w : World}
    {base : Option Addr} {sLen sCap : Nat} {x : Value} (hl : ∀ W : World, (Builtin.lenOf x).run P W = .ok 0 W) (hf : (Builtin.firstCells i.size 0 x).run P w = .ok #[] w) (hc : sLen ≤ sCap) :
    (Builtin.append_ #[t, t2] ty #[.slice base sLen sCap, x]).run P w = .ok (.slice base sLen sCap) w := by
  rcases ht2 with ht2 | ⟨e2, ht2⟩
  all_goals
    simp [Builtin.append_, run_underlying ht, run_underlying ht2, sizeOf, typeInfo, hi, hl, hf, hc]
    cases base <;> simp [storeCells]

/-- the cells of a grown row -/
theorem grown_get {olds news rest : List Value} {els els2 : List (List PV)} {size : Nat} {Φ : Fz} (h0 : olds.length = els.length * size) (h1 : news.length = els2.length * size)
    (hs1 : ∀ e ∈ els, e.length = size) (hs2 : ∀ e ∈ els2, e.length = size)
    (ho : ∀ (i : Nat) e (j : Nat) p u, els[i]? = some e → e[j]? = some p → olds[i * size + j]? = some u → VP Φ p u) (hn : ∀ (i : Nat) e (j : Nat) p u, els2[i]? = some e → e[j]? = some p → news[i * size + j]? = some u → VP Φ p u) :
    ∀ (i : Nat) e (j : Nat) p u, (els ++ els2)[i]? = some e → e[j]? = some p → (olds ++ news ++ rest)[i * size + j]? = some u → VP Φ p u := by
  intro i e j p u h2 h3 h4
  have hjl := (List.getElem?_eq_some_iff.1 h3).1
  by_cases hi : i < els.length
  · rw [List.getElem?_append_left hi] at h2
    rw [hs1 e (List.mem_of_getElem? h2)] at hjl
    have := mul_lt_of hi hjl
    rw [List.append_assoc, List.getElem?_append_left (by omega)] at h4
    exact ho i e j p u h2 h3 h4
  · rw [List.getElem?_append_right (by omega)] at h2
    rw [hs2 e (List.mem_of_getElem? h2)] at hjl
    have hi2 := (List.getElem?_eq_some_iff.1 h2).1
    have := mul_lt_of hi2 hjl
    have e1 : i * size = els.length * size + (i - els.length) * size := by rw [← Nat.add_mul]; congr 1; omega
    rw [List.append_assoc, List.getElem?_append_right (by omega), List.getElem?_append_left (by omega)] at h4
    refine hn _ e j p u h2 h3 ?_
    rw [← h4]; congr 1; omega

def notIntT (P : Program) (t : TypeId) : Bool :=
  match P.underlying t with
  | some .string => true
  | some (.slice _) => true
  | _ => false

theorem notIntT_inv {P : Program} {t : TypeId} (h : notIntT P t = true) : P.underlying t = some .string ∨ ∃ e, P.underlying t = some (.slice e) := by
  unfold notIntT at h
  split at h <;> try cases h
  · rename_i hd; exact .inl hd
  · rename_i e hd; exact .inr ⟨e, hd⟩

def evAppend (P : Program) (σ : Nat → SObj) (N : Nat) (t t2 : TypeId) (x y : SV) : Ev :=
  match tiOf P t, srcOf σ y with
  | some ti, some (els2, rd2) => match ti.kind with
    | .slice e => match tiOf P e with
      | some eti => match x with
        | .h n => match σ n with
          | .row T s els => .ok ((T = e ∧ s = eti.size ∧ notIntT P t2 = true ∧ 0 < eti.size ∧ eti.zero.length = eti.size) ∧ (els.length + els2.length ≤ 9223372036854775807 ∧ (els.length + els2.length) * eti.bytes ≤ 140737488355328) ∧
                (∀ e ∈ els2, e.length = eti.size) ∧ (∀ e ∈ els2, ∀ p ∈ e, PV.one p = true) ∧ srcObs σ y)
              ([(n, .row T s els), (N, .unborn)] ++ rd2) (.h N) [(n, .dead), (N, .row T s (els ++ els2))]
          | _ => .bad
        | .u (.fz [] (some 0)) => .ok ((notIntT P t2 = true ∧ 0 < eti.size ∧ eti.zero.length = eti.size) ∧ (els2.length ≤ 9223372036854775807 ∧ els2.length * eti.bytes ≤ 140737488355328) ∧
                (∀ e ∈ els2, e.length = eti.size) ∧ (∀ e ∈ els2, ∀ p ∈ e, PV.one p = true) ∧ srcObs σ y)
              ([(N, .unborn)] ++ rd2) (.h N) [(N, .row e eti.size els2)]
        | .u (.fz els (some c)) => .ok ((notIntT P t2 = true ∧ 0 < eti.size ∧ eti.zero.length = eti.size) ∧ (els.length + els2.length ≤ 9223372036854775807 ∧ (els.length + els2.length) * eti.bytes ≤ 140737488355328) ∧
                (∀ e ∈ els2, e.length = eti.size) ∧ (∀ e ∈ els2, ∀ p ∈ e, PV.one p = true) ∧ (∀ e ∈ els, e.length = eti.size) ∧ (∀ e ∈ els, ∀ p ∈ e, PV.one p = true) ∧ (c < els.length + els2.length ∨ els2.length = 0) ∧ srcObs σ y)
              rd2 (.u (.fz (els ++ els2) none)) []
        | .sl n sz lo hi => match σ n with
          | .row T s els => .ok ((T = e ∧ s = eti.size ∧ sz = s ∧ notIntT P t2 = true ∧ 0 < eti.size) ∧ hi + els2.length ≤ els.length ∧
                (∀ e ∈ els2, e.length = eti.size) ∧ (∀ e ∈ els2, ∀ p ∈ e, PV.one p = true) ∧ srcObs σ y)
              ([(n, .row T s els)] ++ rd2) (.sl n sz lo (hi + els2.length)) [(n, .row T s (els.take hi ++ els2 ++ els.drop (hi + els2.length)))]
          | _ => .bad
        | _ => .bad
      | none => .bad
    | _ => .bad
  | _, _ => .bad

theorem row_grown {P : Program} {w0 : World} {ω0 : Nat → Nat} {β : List Value} {σ : List SObj} {Φ : Fz} {ω : Nat → Nat} {w : World} (hR : Rep w0 ω0 β σ Φ ω w) {N : Nat} (hN : σ[N]? = some .unborn) {e : TypeId} {size cap : Nat} {els : List (List PV)} {cs : Array Value}
    (hcs : cs.size = cap * size) (hl : els.length ≤ cap) (hm : cap ≤ maxLen) (hs : ∀ x ∈ els, x.length = size) (hj : ∀ (i : Nat) x (j : Nat) p u, els[i]? = some x → x[j]? = some p → cs[i * size + j]? = some u → VP Φ p u) :
    ∃ ω' β', BExt β β' ∧ β'.length = β.length ∧ V β' Φ (.h N) (.slice (some ⟨w.heap.size, 0, none⟩) els.length cap) ∧ Rep w0 ω0 β' (σ.set N (.row e size els)) Φ ω' (w.alloc (.cells cs e)) := by
  obtain ⟨ω', h1, h2, h3, h4⟩ := hR.born hN (.cells cs e) (.row e size els) (.slice (some ⟨w.heap.size, 0, none⟩) els.length cap) fun ω' β' hω hext =>
    .inr ⟨w.heap.size, cap, cs, rfl, hω, heap_alloc_new w _, hcs, hl, hm, hs, hj⟩
  exact ⟨ω', _, h1, h2, .h N _ h3 rfl, h4⟩


theorem run_append_fits_at {P : Program} {t t2 ty e : TypeId} {i : TypeInfo} (ht : P.underlying t = some (.slice e)) (ht2 : P.underlying t2 = some .string ∨ ∃ e2, P.underlying t2 = some (.slice e2)) (hi : P.info? e = some i) {w : World}
    {b o sLen sCap m : Nat} {x : Value} {cur : Array Value} {T : TypeId} {news : List Value} (hl : ∀ W : World, (Builtin.lenOf x).run P W = .ok m W) (hf : (Builtin.firstCells i.size m x).run P w = .ok news.toArray w)
    (hh : w.heap[b]? = some (.cells cur T (0, 0))) (h1 : ∀ u ∈ news, u.oneCell' = true) (hroom : sLen + m ≤ sCap) (hfit : o + sLen * i.size + news.length ≤ cur.size) :
    (Builtin.append_ #[t, t2] ty #[.slice (some ⟨b, o, none⟩) sLen sCap, x]).run P w = .ok (.slice (some ⟨b, o, none⟩) (sLen + m) sCap)
      (w.setRow b (cur.toList.take (o + sLen * i.size + 0) ++ news ++ cur.toList.drop (o + sLen * i.size + 0 + news.length)).toArray) := by
  have hst := run_storeCells_at (P := P) b (o + sLen * i.size) T news 0 cur w hh (by simpa using hfit) h1
  rcases ht2 with ht2 | ⟨e2, ht2⟩
  all_goals
    simp [Builtin.append_, run_underlying ht, run_underlying ht2, sizeOf, typeInfo, hi, hl, hroom, hf, Addr.add_lit]
    simp only [Nat.add_zero] at hst
    simp [hst]

theorem op_append_sl {P : Program} {o : Oper} {g : Operand → SV} {t t2 e : TypeId} {x y : Operand} (ho : o.op = .call { callee := .builtin .append, args := #[x, y], argTypes := #[t, t2] }) {σf : Nat → SObj}
    {ti eti : TI} {els els2 : List (List PV)} {rd2 : List (Nat × SObj)} {T : TypeId} {s n sz lo top : Nat} (ht : tiOf P t = some ti) (hk : ti.kind = .slice e) (het : tiOf P e = some eti) (hsrc : srcOf σf (g y) = some (els2, rd2)) (hx : g x = .sl n sz lo top)
    (hob : (T = e ∧ s = eti.size ∧ sz = s ∧ notIntT P t2 = true ∧ 0 < eti.size) ∧ top + els2.length ≤ els.length ∧ (∀ e ∈ els2, e.length = eti.size) ∧ (∀ e ∈ els2, ∀ p ∈ e, PV.one p = true) ∧ srcObs σf (g y)) :
    OpR P o g ([(n, .row T s els)] ++ rd2) (.sl n sz lo (top + els2.length)) [(n, .row T s (els.take top ++ els2 ++ els.drop (top + els2.length)))] := by
  have hex : ∀ (ρ : Operand → Value) (w w' : World) (v : Value), (Builtin.append_ #[t, t2] o.type #[ρ x, ρ y]).run P w = .ok v w' → (execOp ρ o).run P w = .ok (.value v) w' := by
    intro ρ w w' v h
    simp [execOp, ho, resolve, invoke, builtin, h]
  have hu := slice_of ht hk
  obtain ⟨i, d, z, hi1, hi2, hi3, hi4, hi5, hi6, hi7, hi8⟩ := tiOf_inv het
  obtain ⟨⟨rfl, rfl, rfl, q3, q4⟩, q5, q8, q9, qs⟩ := hob
  have hd2 := notIntT_inv q3
  intro w0 ω0 β Φ ω σ w ρ hR hg hrd
  have hn := hrd n (.row T eti.size els) (by simp)
  obtain ⟨v, hβ, hO⟩ := hR.at_ hn
  obtain ⟨a, a', l, c, hβ', hv, p1, p2, p3⟩ := (hx ▸ hg x : V β Φ (.sl n eti.size lo top) (ρ x)).inv_sl
  rw [hβ] at hβ'
  obtain rfl := Option.some.inj hβ'
  obtain ⟨news, k1, k2, k3, k4, k5⟩ := (src_ok (P := P) hR (hg y) hsrc qs (fun m ob hm => hrd m ob (by simp [hm])) q4 q8 q9).ex
  by_cases hm0 : els2.length = 0
  · have he2 : els2 = [] := List.eq_nil_of_length_eq_zero hm0
    subst he2
    have hrun := run_append_none (P := P) (ty := o.type) hu hd2 hi1 (w := w) (base := some a') (sLen := top - lo) (sCap := c - lo) (x := ρ y) k1 (by have := k2 w rfl; rw [hi5]; simpa [List.eq_nil_of_length_eq_zero (show news.length = 0 by simpa using k3)] using this) (by omega)
    have hsame : σ.set n (.row T eti.size (els.take top ++ [] ++ els.drop (top + ([] : List (List PV)).length))) = σ := by
      simp only [List.append_nil, List.length_nil, Nat.add_zero, List.take_append_drop]
      obtain ⟨hlt, he⟩ := List.getElem?_eq_some_iff.1 hn
      rw [← he]; exact List.set_getElem_self hlt
    refine ⟨_, _, w, β, Φ, ω, hex ρ w _ _ (by rw [hv]; exact hrun), .inl rfl, BExt.refl _, rfl, Fz.le_refl _, .sl n _ _ _ a a' l c hβ p1 (by simpa using p2) p3, ?_⟩
    simp only [setAll, hsame]; exact hR
  · rcases hO with ⟨ax, hvv, rfl⟩ | ⟨b, c, cs, hvv, hω, hh, hcs, hcl, hm, hse, hj⟩
    · simp only [List.length_nil] at q5; omega
    cases hvv
    have hlt : lo < c := by omega
    obtain rfl := p3 hlt
    have ea : (⟨b, 0, none⟩ : Addr).add (lo * eti.size) = ⟨b, lo * eti.size, none⟩ := by rw [Addr.add_lit, Nat.zero_add]
    rw [ea] at hv
    have hmul : top * eti.size + els2.length * eti.size ≤ c * eti.size := by rw [← Nat.add_mul]; exact Nat.mul_le_mul_right _ (by omega)
    have hlm : lo * eti.size + (top - lo) * eti.size = top * eti.size := by rw [← Nat.add_mul]; congr 1; omega
    have hrun := run_append_fits_at (P := P) (ty := o.type) hu hd2 hi1 (w := w) (b := b) (o := lo * eti.size) (sLen := top - lo) (sCap := c - lo) (m := els2.length) (x := ρ y) (cur := cs) (T := T) (news := news) k1 (by rw [hi5]; exact k2 w rfl) hh k5 (by omega) (by rw [hi5, hlm, k3, hcs]; exact hmul)
    rw [hi5, hlm] at hrun
    have hlen2 : (els.take top ++ els2 ++ els.drop (top + els2.length)).length = els.length := by simp; omega
    refine ⟨_, _, _, β, Φ, ω, hex ρ w _ _ (by rw [hv]; exact hrun), .inl rfl, BExt.refl _, rfl, Fz.le_refl _, ?_, ?_⟩
    · rw [show top - lo + els2.length = top + els2.length - lo by omega, ← ea]
      exact .sl n _ _ _ _ _ _ _ hβ (by omega) (by omega) (fun _ => rfl)
    · simp only [setAll]
      refine hR.turn hn hβ hω rfl rfl rfl (by simp) (fun k hk => setRow_other w b k _ hk) ?_
      refine .inr ⟨b, c, _, by rw [hlen2], hω, setRow_heap w b cs _ T (0, 0) hh, ?_, by rw [hlen2]; exact hcl, hm, fun x hx => ?_, fun i' x j p u h1 h2 h3 => ?_⟩
      · simp only [List.size_toArray, List.length_append, List.length_take, List.length_drop, Array.length_toList]; omega
      · rcases List.mem_append.1 hx with h | h
        · rcases List.mem_append.1 h with h | h
          · exact hse x (List.mem_of_mem_take h)
          · exact q8 x h
        · exact hse x (List.mem_of_mem_drop h)
      · have hjl := (List.getElem?_eq_some_iff.1 h2).1
        have hil := (List.getElem?_eq_some_iff.1 h1).1
        have hxs : x.length = eti.size := by
          rcases List.mem_append.1 (List.mem_of_getElem? h1) with h | h
          · rcases List.mem_append.1 h with h | h
            · exact hse x (List.mem_of_mem_take h)
            · exact q8 x h
          · exact hse x (List.mem_of_mem_drop h)
        rw [hxs] at hjl
        have htl : (els.take top).length = top := by simp; omega
        have hcut : (cs.toList.take (top * eti.size + 0)).length = top * eti.size := by simp; rw [hcs]; omega
        have h3' : (cs.toList.take (top * eti.size + 0) ++ news ++ cs.toList.drop (top * eti.size + 0 + news.length))[i' * eti.size + j]? = some u := by simpa using h3
        by_cases hc1 : i' < top
        · have hm1 := mul_lt_of hc1 hjl
          rw [List.append_assoc, List.getElem?_append_left (by omega)] at h1
          rw [List.getElem?_take, if_pos hc1] at h1
          rw [List.append_assoc, List.getElem?_append_left (by omega), List.getElem?_take, if_pos (by omega)] at h3'
          exact hj i' x j p u h1 h2 (by simpa using h3')
        · by_cases hc2 : i' < top + els2.length
          · have hm2 := mul_lt_of (show i' - top < els2.length by omega) hjl
            have e1 : i' * eti.size = top * eti.size + (i' - top) * eti.size := by rw [← Nat.add_mul]; congr 1; omega
            rw [List.append_assoc, List.getElem?_append_right (by omega), List.getElem?_append_left (by omega), htl] at h1
            rw [List.append_assoc, List.getElem?_append_right (by omega), List.getElem?_append_left (by omega), hcut] at h3'
            refine k4 _ x j p u h1 h2 ?_
            rw [← h3']; congr 1; omega
          · have e1 : i' * eti.size = (top + els2.length) * eti.size + (i' - (top + els2.length)) * eti.size := by rw [← Nat.add_mul]; congr 1; omega
            have e2 : (top + els2.length) * eti.size = top * eti.size + els2.length * eti.size := Nat.add_mul _ _ _
            rw [List.getElem?_append_right (by simp; omega)] at h1
            have hl1 : (els.take top ++ els2).length = top + els2.length := by rw [List.length_append, htl]
            rw [hl1, List.getElem?_drop] at h1
            rw [List.getElem?_append_right (by rw [List.length_append, hcut, k3]; omega), List.length_append, hcut, List.getElem?_drop] at h3'
            refine hj i' x j p u ?_ h2 ?_
            · rw [← h1]; congr 1; omega
            · rw [← Array.getElem?_toList, ← h3']; congr 1; omega

theorem op_append {P : Program} {o : Oper} {g : Operand → SV} {t t2 : TypeId} {x y : Operand} (ho : o.op = .call { callee := .builtin .append, args := #[x, y], argTypes := #[t, t2] }) {σf : Nat → SObj} {N : Nat}
    {ob : Prop} {rd : List (Nat × SObj)} {r : SV} {wr : List (Nat × SObj)} (he : evAppend P σf N t t2 (g x) (g y) = .ok ob rd r wr) (hob : ob) : OpR P o g rd r wr := by
  have hex : ∀ (ρ : Operand → Value) (w w' : World) (v : Value), (Builtin.append_ #[t, t2] o.type #[ρ x, ρ y]).run P w = .ok v w' → (execOp ρ o).run P w = .ok (.value v) w' := by
    intro ρ w w' v h
    simp [execOp, ho, resolve, invoke, builtin, h]
  unfold evAppend at he
  split at he <;> try cases he
  rename_i ti els2 rd2 ht hsrc
  split at he <;> try cases he
  rename_i e hk
  have hu := slice_of ht hk
  split at he <;> try cases he
  rename_i eti het
  obtain ⟨i, d, z, hi1, hi2, hi3, hi4, hi5, hi6, hi7, hi8⟩ := tiOf_inv het
  have hzl : z.cells.size = eti.zero.length := by have := (pvs_ok (Φ := fun _ => none) hi4).1; simpa using this.symm
  split at he
  · rename_i n hx
    split at he <;> try cases he
    rename_i T s els hσ
    obtain ⟨⟨rfl, rfl, q3, q4, q5⟩, ⟨q6, q7⟩, q8, q9, qs⟩ := hob
    have hd2 := notIntT_inv q3
    intro w0 ω0 β Φ ω σ w ρ hR hg hrd
    have hn := hrd n (.row T eti.size els) (by simp)
    have hN := hrd N .unborn (by simp)
    have hnN : n ≠ N := by rintro rfl; rw [hn] at hN; cases hN
    obtain ⟨v, hβ, hO⟩ := hR.at_ hn
    have hv := ((hx ▸ hg x : V β Φ (.h n) (ρ x)).inv_h).1
    rw [hβ] at hv
    have hv := (Option.some.inj hv).symm
    obtain ⟨news, k1, k2, k3, k4, k5⟩ := (src_ok (P := P) hR (hg y) hsrc qs (fun m ob hm => hrd m ob (by simp [hm])) q4 q8 q9).ex
    -- the old row is given up
    have hdead : Rep w0 ω0 β (σ.set n .dead) Φ ω w := by
      have := hR.upd (n := n) (ob' := .dead) (v' := v) (w' := w) (ω' := ω) (Φ' := Φ) (List.getElem?_eq_some_iff.1 hn).1 rfl rfl rfl (Nat.le_refl _) (fun u hu _ => by rw [hβ] at hu; exact Option.some.inj hu) (fun _ _ _ => ⟨rfl, rfl⟩) hR.lt (Fz.le_refl _) hR.fz trivial
      rwa [set_same hβ] at this
    have hN' : (σ.set n .dead)[N]? = some .unborn := by rw [List.getElem?_set_ne hnN]; exact hN
    -- the row grows into a new block
    have grow : ∀ (base : Option Addr) (cap : Nat) (olds : List Value), v = .slice base els.length cap → cap < els.length + els2.length → olds.length = els.length * eti.size →
        (Builtin.firstCells i.size els.length (.slice base els.length cap)).run P w.drew = .ok olds.toArray w.drew →
        (∀ x ∈ els, x.length = eti.size) → (∀ (i : Nat) x (j : Nat) p u, els[i]? = some x → x[j]? = some p → olds[i * eti.size + j]? = some u → VP Φ p u) →
        ∃ nx v w' β' Φ' ω', (execOp ρ o).run P w = .ok nx w' ∧ (nx = .value v ∨ nx = .skip ∧ v = undef) ∧ BExt β β' ∧ β'.length = β.length ∧ Φ.le Φ' ∧ V β' Φ' (.h N) v ∧ Rep w0 ω0 β' (setAll σ [(n, .dead), (N, .row T eti.size (els ++ els2))]) Φ' ω' w' := by
      intro base cap olds hvb hcap hlo hfo hse hjo
      have hrun := run_append_grows (P := P) (ty := o.type) hu hd2 hi1 hi3 (w := w) (base := base) (sLen := els.length) (sCap := cap) (m := els2.length) (x := ρ y) (olds := olds) (news := news) k1 (by rw [hi5]; exact k2 _ rfl) (by exact hfo) hcap q6 (by rw [hi6]; exact q7)
      obtain ⟨ω', β', r1, r2, r3, r4⟩ := row_grown (P := P) (hdead.drew) hN' (e := T) (size := eti.size) (cap := grownCap w (els.length + els2.length) cap T) (els := els ++ els2)
        (cs := olds.toArray ++ news.toArray ++ Builtin.zeroCells z.cells (grownCap w (els.length + els2.length) cap T - (els.length + els2.length)))
        (by
          have := grownCap_ge w (els.length + els2.length) cap T
          simp only [Array.size_append, List.size_toArray, size_zeroCells, hlo, k3, hzl, q5, ← Nat.add_mul]
          congr 1; omega)
        (by have := grownCap_ge w (els.length + els2.length) cap T; simpa using this)
        (grownCap_le_maxLen w _ _ _ (by unfold maxLen; omega))
        (fun x hx => by rcases List.mem_append.1 hx with h | h; exact hse x h; exact q8 x h)
        (fun i' x j p u h1 h2 h3 => by
          refine grown_get (rest := (Builtin.zeroCells z.cells (grownCap w (els.length + els2.length) cap T - (els.length + els2.length))).toList) hlo k3 hse q8 hjo k4 i' x j p u h1 h2 ?_
          rw [← h3]; simp [← Array.getElem?_toList])
      refine ⟨_, _, _, β', Φ, ω', hex ρ w _ _ (by rw [hv, hvb]; exact hrun), .inl rfl, r1, r2, Fz.le_refl _, ?_, r4⟩
      have : (els ++ els2).length = els.length + els2.length := by simp
      rw [this] at r3
      exact r3
    rcases hO with ⟨a, rfl, rfl⟩ | ⟨b, cap, cs, rfl, hω, hh, hcs, hcl, hm, hse, hj⟩
    · by_cases hm0 : els2.length = 0
      · -- nothing comes, to nothing
        have he2 : els2 = [] := List.eq_nil_of_length_eq_zero hm0
        subst he2
        have hrun := run_append_none (P := P) (ty := o.type) hu hd2 hi1 (w := w) (base := a) (sLen := 0) (sCap := 0) (x := ρ y) k1 (by have := k2 w rfl; rw [hi5]; simpa [List.eq_nil_of_length_eq_zero (show news.length = 0 by simpa using k3)] using this) (Nat.le_refl _)
        have hNβ := hR.unborn hN
        have hup := hdead.upd (n := N) (ob' := .row T eti.size []) (v' := .slice a 0 0) (w' := w) (ω' := ω) (Φ' := Φ) (List.getElem?_eq_some_iff.1 hN').1 rfl rfl rfl (Nat.le_refl _) (fun u hu hr => by rw [hNβ] at hu; cases hu; simp [isRef] at hr) (fun _ _ _ => ⟨rfl, rfl⟩) hR.lt (Fz.le_refl _) hR.fz (.inl ⟨a, rfl, rfl⟩)
        have hlt : N < β.length := by rw [hR.len]; exact (List.getElem?_eq_some_iff.1 hN).1
        refine ⟨_, _, w, β.set N (.slice a 0 0), Φ, ω, hex ρ w _ _ (by rw [hv]; exact hrun), .inl rfl, fun m u hm' hr => ?_, by simp, Fz.le_refl _, .h N _ (List.getElem?_set_self hlt) rfl, by simpa [setAll] using hup⟩
        by_cases e : m = N
        · subst e; rw [hNβ] at hm'; cases hm'; simp [isRef] at hr
        · rw [List.getElem?_set_ne (fun h => e h.symm)]; exact hm'
      · refine grow a 0 [] rfl (by simp; omega) (by simp) ?_ (by simp) (by simp)
        cases a <;> simp [Builtin.firstCells, loadCells, loadCellsFrom]
    · have hone : ∀ u ∈ news, u.oneCell' = true := k5
      by_cases hroom : els.length + els2.length ≤ cap
      · -- in place
        have hfit : els.length * eti.size + news.length ≤ cs.size := by rw [k3, hcs, ← Nat.add_mul]; exact Nat.mul_le_mul_right _ hroom
        have hrun := run_append_fits (P := P) (ty := o.type) hu hd2 hi1 (w := w) (b := b) (sLen := els.length) (sCap := cap) (m := els2.length) (x := ρ y) (cur := cs) (T := T) (news := news) k1 (by rw [hi5]; exact k2 w rfl) hh hone hroom (by rw [hi5]; exact hfit)
        have hNβ := hR.unborn hN
        have hNlt : N < β.length := by rw [hR.len]; exact (List.getElem?_eq_some_iff.1 hN).1
        have hblt : b < w.heap.size := hR.lt b (by omega)
        rw [hi5] at hrun
        have hlen : (els ++ els2).length = els.length + els2.length := by simp
        refine ⟨_, _, _, β.set N (.slice (some ⟨b, 0, none⟩) (els ++ els2).length cap), Φ, fun k => if k = b then N + 2 else ω k, hex ρ w _ _ (by rw [hv]; exact hrun), .inl rfl, fun m u hm' hr => ?_, by simp, Fz.le_refl _,
          by rw [← hlen]; exact .h N _ (List.getElem?_set_self hNlt) rfl, ?_⟩
        · by_cases e : m = N
          · subst e; rw [hNβ] at hm'; cases hm'; simp [isRef] at hr
          · rw [List.getElem?_set_ne (fun h => e h.symm)]; exact hm'
        · have hext : BExt β (β.set N (.slice (some ⟨b, 0, none⟩) (els ++ els2).length cap)) := fun m u hm' hr => by
            by_cases e : m = N
            · subst e; rw [hNβ] at hm'; cases hm'; simp [isRef] at hr
            · rw [List.getElem?_set_ne (fun h => e h.symm)]; exact hm'
          have hoth : ∀ (C : Array Value) k, k ≠ b → (w.setRow b C).heap[k]? = w.heap[k]? := fun C k hk => setRow_other w b k C hk
          refine ⟨hR.os, hR.tape, hR.output, by simpa using hR.size, fun k hk h0 => ?_, fun k ob hk => ?_, fun k hk => ?_, by simp [hR.len, setAll], fun m ob u hm' hu' => ?_, hR.gl⟩
          · obtain ⟨h1, h2⟩ := hR.frame k hk h0
            have hkb : k ≠ b := by rintro rfl; omega
            exact ⟨by rw [hoth _ k hkb]; exact h1, by rw [if_neg hkb]; exact h2⟩
          · obtain ⟨h1, h2⟩ := hR.fz k ob hk
            have hkb : k ≠ b := by rintro rfl; omega
            exact ⟨by rw [if_neg hkb]; exact h1, by rw [hoth _ k hkb]; exact h2⟩
          · rw [size_setRow]
            by_cases hkb : k = b
            · subst hkb; exact hblt
            · rw [if_neg hkb] at hk; exact hR.lt k hk
          · by_cases hmN : m = N
            · subst hmN
              simp only [setAll] at hm'
              rw [List.getElem?_set_self (by simpa using (List.getElem?_eq_some_iff.1 hN).1)] at hm'
              rw [List.getElem?_set_self hNlt] at hu'
              cases hm'; cases hu'
              refine .inr ⟨b, cap, _, rfl, by simp, setRow_heap w b cs _ T (0, 0) hh, ?_, by simpa using hroom, hm, fun x hx => by rcases List.mem_append.1 hx with h | h; exact hse x h; exact q8 x h, fun i' x j p u h1 h2 h3 => ?_⟩
              · simp only [List.size_toArray, List.length_append, List.length_take, List.length_drop, Array.length_toList]; omega
              · refine grown_get (olds := cs.toList.take (els.length * eti.size + 0)) (rest := cs.toList.drop (els.length * eti.size + 0 + news.length)) (by simp; omega) k3 hse q8 (fun i'' x'' j'' p'' u'' g1 g2 g3 => ?_) k4 i' x j p u h1 h2 (by simpa using h3)
                rw [List.getElem?_take] at g3
                split at g3
                · exact hj i'' x'' j'' p'' u'' g1 g2 (by simpa using g3)
                · cases g3
            · simp only [setAll] at hm'
              rw [List.getElem?_set_ne (fun h => hmN h.symm)] at hm' hu'
              by_cases hmn : m = n
              · subst hmn
                rw [List.getElem?_set_self (List.getElem?_eq_some_iff.1 hn).1] at hm'
                cases hm'
                trivial
              · rw [List.getElem?_set_ne (fun h => hmn h.symm)] at hm'
                refine (hR.obj m ob u hm' hu').mono hext (Fz.le_refl _) fun k hk => ?_
                have hkb : k ≠ b := by rintro rfl; omega
                exact ⟨by rw [if_neg hkb]; exact hk, hoth _ k hkb⟩
      · have hlo : (cs.toList.take (els.length * eti.size)).length = els.length * eti.size := by
          have := Nat.mul_le_mul_right eti.size hcl
          simp; rw [hcs]; omega
        refine grow _ cap (cs.toList.take (els.length * eti.size)) rfl (by omega) hlo ?_ hse (fun i' x j p u h1 h2 h3 => ?_)
        · rw [hi5]
          refine run_firstCells_some (P := P) w.drew eti.size els.length _ els.length cap _ hlo fun j u hj' => ?_
          rw [World.cell?_drew, Addr.add_lit, Nat.zero_add, cell_of_row w b j cs T (0, 0) hh]
          rw [List.getElem?_take] at hj'
          split at hj'
          · simpa using hj'
          · cases hj'
        · rw [List.getElem?_take] at h3
          split at h3
          · exact hj i' x j p u h1 h2 (by simpa using h3)
          · cases h3
  · rename_i hx
    cases he
    obtain ⟨⟨q3, q4, q5⟩, ⟨q6, q7⟩, q8, q9, qs⟩ := hob
    have hd2 := notIntT_inv q3
    intro w0 ω0 β Φ ω σ w ρ hR hg hrd
    have hN := hrd N .unborn (by simp)
    obtain ⟨sz, a, cap, f, hv, _, _, _, hc, _⟩ := (hx ▸ hg x : V β Φ (.u (.fz [] (some 0))) (ρ x)).inv_fz
    have hcap : cap = 0 := (hc 0 rfl).symm
    subst hcap
    simp only [List.length_nil] at hv
    obtain ⟨news, k1, k2, k3, k4, k5⟩ := (src_ok (P := P) hR (hg y) hsrc qs (fun m ob hm => hrd m ob (by simp [hm])) q4 q8 q9).ex
    by_cases hm0 : els2.length = 0
    · have he2 : els2 = [] := List.eq_nil_of_length_eq_zero hm0
      subst he2
      have hrun := run_append_none (P := P) (ty := o.type) hu hd2 hi1 (w := w) (base := a) (sLen := 0) (sCap := 0) (x := ρ y) k1 (by have := k2 w rfl; rw [hi5]; simpa [List.eq_nil_of_length_eq_zero (show news.length = 0 by simpa using k3)] using this) (Nat.le_refl _)
      have hNβ := hR.unborn hN
      have hup := hR.upd (n := N) (ob' := .row e eti.size []) (v' := .slice a 0 0) (w' := w) (ω' := ω) (Φ' := Φ) (List.getElem?_eq_some_iff.1 hN).1 rfl rfl rfl (Nat.le_refl _) (fun u hu hr => by rw [hNβ] at hu; cases hu; simp [isRef] at hr) (fun _ _ _ => ⟨rfl, rfl⟩) hR.lt (Fz.le_refl _) hR.fz (.inl ⟨a, rfl, rfl⟩)
      have hlt : N < β.length := by rw [hR.len]; exact (List.getElem?_eq_some_iff.1 hN).1
      refine ⟨_, _, w, β.set N (.slice a 0 0), Φ, ω, hex ρ w _ _ (by rw [hv]; exact hrun), .inl rfl, fun m u hm' hr => ?_, by simp, Fz.le_refl _, .h N _ (List.getElem?_set_self hlt) rfl, by simpa [setAll] using hup⟩
      by_cases e : m = N
      · subst e; rw [hNβ] at hm'; cases hm'; simp [isRef] at hr
      · rw [List.getElem?_set_ne (fun h => e h.symm)]; exact hm'
    · have hfo : (Builtin.firstCells i.size 0 (.slice a 0 0)).run P w.drew = .ok ([] : List Value).toArray w.drew := by cases a <;> simp [Builtin.firstCells, loadCells, loadCellsFrom]
      have hrun := run_append_grows (P := P) (ty := o.type) hu hd2 hi1 hi3 (w := w) (base := a) (sLen := 0) (sCap := 0) (m := els2.length) (x := ρ y) (olds := []) (news := news) k1 (by rw [hi5]; exact k2 _ rfl) hfo (by omega) (by omega) (by rw [hi6, Nat.zero_add]; exact q7)
      simp only [Nat.zero_add] at hrun
      have hge := grownCap_ge w els2.length 0 e
      obtain ⟨ω', β', r1, r2, r3, r4⟩ := row_grown (P := P) (hR.drew) hN (e := e) (size := eti.size) (cap := grownCap w els2.length 0 e) (els := els2)
        (cs := ([] : List Value).toArray ++ news.toArray ++ Builtin.zeroCells z.cells (grownCap w els2.length 0 e - els2.length))
        (by simp only [Array.size_append, List.size_toArray, size_zeroCells, k3, hzl, q5, List.length_nil, Nat.zero_add, ← Nat.add_mul]; congr 1; omega) hge (grownCap_le_maxLen w _ _ _ (by unfold maxLen; omega)) q8
        (fun i' x j p u h1 h2 h3 => by
          refine grown_get (els := []) (olds := []) (rest := (Builtin.zeroCells z.cells (grownCap w els2.length 0 e - els2.length)).toList) (by simp) k3 (by simp) q8 (by simp) k4 i' x j p u (by simpa using h1) h2 ?_
          rw [← h3]; simp [← Array.getElem?_toList])
      exact ⟨_, _, _, β', Φ, ω', hex ρ w _ _ (by rw [hv]; exact hrun), .inl rfl, r1, r2, Fz.le_refl _, r3, r4⟩
  · rename_i els c hne hx
    cases he
    obtain ⟨⟨q3, q4, q5⟩, ⟨q6, q7⟩, q8, q9, q10, q11, q12, qs⟩ := hob
    have hd2 := notIntT_inv q3
    intro w0 ω0 β Φ ω σ w ρ hR hg hrd
    obtain ⟨sz, a, cap, f, hv, p1, p2, p3, hc, p5, p6, p7⟩ := (hx ▸ hg x : V β Φ (.u (.fz els (some c))) (ρ x)).inv_fz
    have hcap := hc c rfl
    obtain ⟨news, k1, k2, k3, k4, k5⟩ := (src_ok (P := P) hR (hg y) hsrc qs hrd q4 q8 q9).ex
    obtain ⟨olds, o1, o2, o3, o4, o5⟩ := (src_ok (P := P) (σf := σf) hR (hx ▸ hg x : V β Φ (.u (.fz els (some c))) (ρ x)) (els := els) (rd := []) rfl trivial (by simp) q4 q10 q11).ex
    by_cases hm0 : els2.length = 0
    · have he2 : els2 = [] := List.eq_nil_of_length_eq_zero hm0
      subst he2
      have hrun := run_append_none (P := P) (ty := o.type) hu hd2 hi1 (w := w) (base := a) (sLen := els.length) (sCap := cap) (x := ρ y) k1 (by have := k2 w rfl; rw [hi5]; simpa [List.eq_nil_of_length_eq_zero (show news.length = 0 by simpa using k3)] using this) (by omega)
      refine ⟨_, _, w, β, Φ, ω, hex ρ w _ _ (by rw [hv]; exact hrun), .inl rfl, BExt.refl _, rfl, Fz.le_refl _, ?_, hR⟩
      rw [List.append_nil]
      exact .u _ _ (.fz sz els none a cap f p1 p2 p3 (by simp) p5 p6 p7)
    · have hlt : c < els.length + els2.length := by rcases q12 with h | h; exact h; exact absurd h hm0
      have hrun := run_append_grows (P := P) (ty := o.type) hu hd2 hi1 hi3 (w := w) (base := a) (sLen := els.length) (sCap := cap) (m := els2.length) (x := ρ y) (olds := olds) (news := news) k1 (by rw [hi5]; exact k2 _ rfl)
        (by rw [hi5, ← hv]; exact o2 _ rfl) (by omega) q6 (by rw [hi6]; exact q7)
      have hge := grownCap_ge w (els.length + els2.length) cap e
      obtain ⟨Φ', ω', r1, r2, r3⟩ := hR.drew.frost (.cells (olds.toArray ++ news.toArray ++ Builtin.zeroCells z.cells (grownCap w (els.length + els2.length) cap e - (els.length + els2.length))) e)
      have hlen : (els ++ els2).length = els.length + els2.length := by simp
      refine ⟨_, _, _, β, Φ', ω', hex ρ w _ _ (by rw [hv]; exact hrun), .inl rfl, BExt.refl _, rfl, r1, ?_, r3⟩
      rw [← hlen]
      refine V.fz_new (sz := eti.size) r2 (fun x hx => by rcases List.mem_append.1 hx with h | h; exact q10 x h; exact q8 x h) (by rw [hlen]; exact hge) (grownCap_le_maxLen w _ _ _ (by unfold maxLen; omega)) ?_ (fun i' x j p u h1 h2 h3 => ?_) (by simp)
      · have := Nat.mul_le_mul_right eti.size hge
        rw [hlen]
        simp only [Array.size_append, List.size_toArray, size_zeroCells, o3, k3, hzl, q5, ← Nat.add_mul]
        refine Nat.mul_le_mul_right _ (by omega)
      · refine (grown_get (rest := (Builtin.zeroCells z.cells (grownCap w (els.length + els2.length) cap e - (els.length + els2.length))).toList) o3 k3 q10 q8 o4 k4 i' x j p u h1 h2 ?_).mono r1
        rw [← h3]; simp [← Array.getElem?_toList]
  · rename_i n sz lo top hx
    split at he <;> try cases he
    rename_i T s els hσ
    exact op_append_sl ho ht hk het hsrc hx hob
  · cases he

def idxOK (k : Nat) : List (Nat × SV) → Bool
  | [] => true
  | (i, _) :: r => i == k && idxOK (k + 1) r

def purEls : List (Nat × SV) → Option (List (List PV))
  | [] => some []
  | (_, x) :: r => match pures x.cells, purEls r with
    | some l, some ls => some (l :: ls)
    | _, _ => none

theorem purEls_ok : ∀ {xs : List (Nat × SV)} {els : List (List PV)}, purEls xs = some els → els.length = xs.length ∧ ∀ (i : Nat) x e, xs[i]? = some x → els[i]? = some e → x.2.cells = e.map .u
  | [], els, h => by cases h; simp
  | (k, x) :: xs, els, h => by
    unfold purEls at h
    split at h <;> cases h
    rename_i l ls h1 h2
    obtain ⟨a, b⟩ := purEls_ok h2
    refine ⟨by simp [a], fun i y e hy he => ?_⟩
    cases i with
    | zero => simp at hy he; subst hy he; exact pures_ok h1
    | succ i => exact b i y e (by simpa using hy) (by simpa using he)

def evBuildSlice (P : Program) (t : TypeId) (len : Nat) (xs : List (Nat × SV)) : Ev :=
  match tiOf P t with
  | some ti => match ti.kind with
    | .slice e => match tiOf P e, purEls xs with
      | some eti, some els => .ok (idxOK 0 xs = true ∧ xs.length = len ∧ 0 < eti.size ∧ eti.zero.length = eti.size ∧ len * eti.size ≤ 16777216 ∧ (∀ e ∈ els, e.length = eti.size) ∧ (∀ e ∈ els, ∀ p ∈ e, PV.one p = true)) [] (.u (.fz els (some len))) []
      | _, _ => .bad
    | _ => .bad
  | none => .bad

theorem fill_seq {β : List Value} {Φ : Fz} {size : Nat} (h0 : 0 < size) : ∀ (xs : List (Nat × SV)) (parts : List (Nat × Value)) (els : List (List PV)) (k : Nat) (cells : Array Value), parts.length = xs.length →
    (∀ (j : Nat) x v, xs[j]? = some x → parts[j]? = some v → x.1 = v.1 ∧ V β Φ x.2 v.2) → idxOK k xs = true → purEls xs = some els → (∀ e ∈ els, e.length = size) → (∀ e ∈ els, ∀ p ∈ e, PV.one p = true) → (k + xs.length) * size ≤ cells.size →
    ∃ cells', Instr.fill (fun i => some (i * size, size)) cells parts = some cells' ∧ cells'.size = cells.size ∧ (∀ m, m < k * size → cells'[m]? = cells[m]?) ∧
      ∀ (i : Nat) e (j : Nat) p u, els[i]? = some e → e[j]? = some p → cells'[(k + i) * size + j]? = some u → VP Φ p u
  | [], parts, els, k, cells, hl, _, _, h, _, _, _ => by
    have : parts = [] := List.eq_nil_of_length_eq_zero (by simpa using hl)
    subst this
    cases h
    exact ⟨cells, rfl, rfl, fun _ _ => rfl, by simp⟩
  | (i, x) :: xs, parts, els, k, cells, hl, hx, hi, h, hs, ho, hsz => by
    obtain ⟨⟨i', v⟩, parts', rfl⟩ : ∃ p r, parts = p :: r := by
      cases parts with
      | nil => simp at hl
      | cons p r => exact ⟨p, r, rfl⟩
    obtain ⟨hii, hv⟩ := hx 0 (i, x) (i', v) rfl rfl
    simp only at hii hv
    subst hii
    unfold idxOK at hi
    simp only [Bool.and_eq_true, beq_iff_eq] at hi
    obtain ⟨rfl, hi⟩ := hi
    unfold purEls at h
    split at h <;> cases h
    rename_i l ls h1 h2
    have hcells := pures_ok h1
    have hl' : l.length = size := hs l (by simp)
    have hone : x.cells.all SV.one = true := by
      rw [hcells, List.all_map]
      refine List.all_eq_true.2 fun p hp => ?_
      have := ho l (by simp) p hp
      cases p <;> first | rfl | (simp [PV.one] at this)
    obtain ⟨d1, d2, d3⟩ := hv.cells hone
    have hvs : v.cells.size = size := by rw [d1, hcells]; simpa using hl'
    have hbound : i * size + size ≤ cells.size := by
      have : (i + 1) * size ≤ (i + ((i, x) :: xs).length) * size := Nat.mul_le_mul_right _ (by simp)
      rw [Nat.succ_mul] at this; omega
    have hcond : ¬ ((decide (v.cells.size ≠ size) || decide (i * size + v.cells.size > cells.size)) = true) := by
      simp only [Bool.or_eq_true, decide_eq_true_eq]; omega
    have hfold : v.cells.zipIdx.foldl (fun (cs : Array Value) (p : Value × Nat) => cs.setIfInBounds (i * size + p.2) p.1) cells = (v.cells.toList.zipIdx 0).foldl (fun (cs : Array Value) (p : Value × Nat) => cs.setIfInBounds (i * size + p.2) p.1) cells := by
      rw [← Array.foldl_toList, Array.toList_zipIdx]
    have hfill : Instr.fill (fun i => some (i * size, size)) cells ((i, v) :: parts') = Instr.fill (fun i => some (i * size, size)) ((v.cells.toList.zipIdx 0).foldl (fun (cs : Array Value) (p : Value × Nat) => cs.setIfInBounds (i * size + p.2) p.1) cells) parts' := by
      rw [← hfold]
      conv => lhs; unfold Instr.fill
      simp only
      rw [if_neg hcond]
    obtain ⟨cells', e1, e2, e3, e4⟩ := fill_seq h0 xs parts' ls (i + 1) ((v.cells.toList.zipIdx 0).foldl (fun (cs : Array Value) (p : Value × Nat) => cs.setIfInBounds (i * size + p.2) p.1) cells) (by simpa using hl)
      (fun j x v g1 g2 => hx (j + 1) x v (by simpa using g1) (by simpa using g2)) hi h2 (fun e he => hs e (by simp [he])) (fun e he => ho e (by simp [he])) (by rw [splice_size]; simp at hsz; rw [show i + 1 + xs.length = i + (xs.length + 1) by omega]; exact hsz)
    refine ⟨cells', by rw [hfill]; exact e1, by rw [e2, splice_size], fun m hm => ?_, fun i' e j p u g1 g2 g3 => ?_⟩
    · rw [e3 m (by rw [Nat.succ_mul]; omega), splice_get, if_neg (by omega)]
    · cases i' with
      | zero =>
        simp at g1; subst g1
        have hj := (List.getElem?_eq_some_iff.1 g2).1
        rw [Nat.add_zero, e3 _ (by rw [Nat.succ_mul]; omega), splice_get, if_pos (by simp; omega)] at g3
        have := d2 j (.u p) u (by rw [hcells, List.getElem?_map, g2]; rfl) (by rw [← g3]; simp)
        cases this; assumption
      | succ i' =>
        refine e4 i' e j p u (by simpa using g1) g2 ?_
        rw [← g3]; congr 1; rw [show i + 1 + i' = i + (i' + 1) by omega]

theorem op_buildSlice {P : Program} {o : Oper} {g : Operand → SV} {t : TypeId} {len : Nat} {parts : Array (Nat × Operand)} (ho : o.op = .buildSlice t len parts) {ob : Prop} {rd : List (Nat × SObj)} {r : SV} {wr : List (Nat × SObj)}
    (he : evBuildSlice P t len (parts.toList.map fun p => (p.1, g p.2)) = .ok ob rd r wr) (hob : ob) : OpR P o g rd r wr := by
  unfold evBuildSlice at he
  split at he <;> try cases he
  rename_i ti ht
  split at he <;> try cases he
  rename_i e hk
  have hu := slice_of ht hk
  split at he <;> try cases he
  rename_i eti els het hpur
  obtain ⟨q1, q2, q3, q4, q5, q6, q7⟩ := hob
  intro w0 ω0 β Φ ω σ w ρ hR hg hrd
  obtain ⟨it, d, z, h1, h2, h3, h4, h5, h6, h7, h8⟩ := tiOf_inv het
  have hzl : z.cells.size = eti.size := by have := (pvs_ok (Φ := Φ) h4).1; simp at this; omega
  have hrel : ∀ (j : Nat) x v, (parts.toList.map fun p => (p.1, g p.2))[j]? = some x → ((parts.map fun (i, x) => (i, ρ x)).toList)[j]? = some v → x.1 = v.1 ∧ V β Φ x.2 v.2 := by
    intro j x v hx hv
    rw [List.getElem?_map] at hx
    obtain ⟨p, hp, rfl⟩ := Option.map_eq_some_iff.1 hx
    rw [Array.toList_map, List.getElem?_map, hp] at hv
    cases hv
    exact ⟨rfl, hg _⟩
  let zz : Array Value := if len * eti.size = 0 then #[] else z.cells
  obtain ⟨cells', e1, e2, _, e4⟩ := fill_seq (β := β) (Φ := Φ) q3 _ _ els 0 ((Array.range (len * eti.size)).map (zz[· % zz.size]!)) (by simp) hrel q1 hpur q6 q7 (by rw [Array.size_map, Array.size_range, Nat.zero_add, q2]; exact Nat.le_refl _)
  have hlen : els.length = len := by have := (purEls_ok hpur).1; omega
  obtain ⟨Φ', ω', r1, r2, r3⟩ := hR.frost (.cells cells' e)
  refine ⟨_, .slice (some ⟨w.heap.size, 0, none⟩) len len, w.alloc (.cells cells' e), β, Φ', ω', ?_, .inl rfl, BExt.refl _, rfl, r1, ?_, r3⟩
  · have hlim : ¬ (16777216 < len * eti.size) := by omega
    simp only [execOp, ho, Instr.buildSlice, Sem.run_bind, run_underlying hu, Result.andThen_ok, run_sizeOf het, Sem.run_ite]
    rw [if_neg (by omega)]
    by_cases hz0 : len * eti.size = 0
    · simp only [hz0, if_true, Sem.run_pure, Result.andThen_ok]
      have e1' := e1
      simp only [zz, hz0, if_true] at e1'
      simp only [e1', Sem.run_pure, Result.andThen_ok, newRow, Sem.run_bind, run_newObj]
      rfl
    · simp only [hz0, if_false, Sem.run_bind, zeroValue, typeInfo, run_program, Result.andThen_ok, h1, Sem.run_pure, h3]
      have e1' := e1
      simp only [zz, hz0, if_false] at e1'
      simp only [e1', Sem.run_pure, Result.andThen_ok, newRow, Sem.run_bind, run_newObj]
      rfl
  · rw [← hlen]
    refine V.fz_new (sz := eti.size) r2 q6 (Nat.le_refl _) (by unfold maxLen; have := Nat.le_mul_of_pos_right len q3; omega) (by rw [e2, hlen]; simp) (fun i e j p u g1 g2 g3 => ?_) (fun k hk => by cases hk; rfl)
    have := e4 i e j p u g1 g2 (by simpa using g3)
    exact this.mono r1

/-! ### conversions -/
def byteOf : List PV → UInt8
  | [.i .u8 n] => UInt8.ofNat n.toNat
  | _ => 0
def bytesOf (els : List (List PV)) : List UInt8 := els.map byteOf

theorem bytesOf_bs (l : List UInt8) : bytesOf (bs l) = l := by
  unfold bytesOf bs
  rw [List.map_map]
  conv => rhs; rw [← List.map_id l]
  refine List.map_congr_left fun b _ => ?_
  simp [byteOf]

def isU8 (P : Program) (e : TypeId) : Bool :=
  match tiOf P e with
  | some ti => match ti.kind with | .int .u8 => true | _ => false
  | none => false

def evConvert (P : Program) (σ : Nat → SObj) (s d : TypeId) (x : SV) : Ev :=
  match tiOf P s, tiOf P d with
  | some sti, some dti => match sti.kind, dti.kind, x with
    | .int _, .int k, .u (.i _ n) => .ok True [] (.u (.i k (k.wrap n))) []
    | .str, .str, .u (.s l) => .ok True [] (.u (.s l)) []
    | .str, .slice e, .u (.s l) => .ok (isU8 P e = true ∧ l.length ≤ 9223372036854775807) [] (.u (.fz (bs l) none)) []
    | .slice e, .str, .u (.fz els _) => .ok (isU8 P e = true ∧ els = bs (bytesOf els)) [] (.u (.s (bytesOf els))) []
    | .slice e, .str, .h n => match σ n with
      | .row T s els => .ok (isU8 P e = true ∧ els = bs (bytesOf els)) [(n, .row T s els)] (.u (.s (bytesOf els))) []
      | _ => .bad
    | .slice e, .str, .sl n sz lo hi => match σ n with
      | .row T s els => .ok (isU8 P e = true ∧ (els.drop lo).take (hi - lo) = bs (bytesOf ((els.drop lo).take (hi - lo))) ∧ s = sz ∧ hi ≤ els.length) [(n, .row T s els)] (.u (.s (bytesOf ((els.drop lo).take (hi - lo))))) []
      | _ => .bad
    | _, _, _ => .bad
  | _, _ => .bad

theorem isU8_inv {P : Program} {e : TypeId} (h : isU8 P e = true) : P.underlying e = some (.int .u8) := by
  unfold isU8 at h
  split at h <;> try cases h
  rename_i ti ht
  split at h <;> try cases h
  rename_i hk
  exact int_of ht hk

theorem op_convert {P : Program} {o : Oper} {g : Operand → SV} {s d : TypeId} {x : Operand} (ho : o.op = .convert s d x) {σf : Nat → SObj} {ob : Prop} {rd : List (Nat × SObj)} {r : SV} {wr : List (Nat × SObj)}
    (he : evConvert P σf s d (g x) = .ok ob rd r wr) (hob : ob) : OpR P o g rd r wr := by
  have hex : ∀ (ρ : Operand → Value) (w w' : World) (v : Value), (convert s d (ρ x)).run P w = .ok v w' → (execOp ρ o).run P w = .ok (.value v) w' := by
    intro ρ w w' v h
    simp [execOp, ho, h]
  unfold evConvert at he
  split at he <;> try cases he
  rename_i sti dti hs hd
  have back : ∀ (e : TypeId) (els : List (List PV)) (rd : List (Nat × SObj)), sti.kind = .slice e → dti.kind = .str → isU8 P e = true → els = bs (bytesOf els) → srcOf σf (g x) = some (els, rd) → srcObs σf (g x) →
      (∀ (w0 : World) (ω0 : Nat → Nat) (β : List Value) (Φ : Fz) (ω : Nat → Nat) (σ : List SObj) (w : World) (ρ : Operand → Value), Rep w0 ω0 β σ Φ ω w → (∀ x, V β Φ (g x) (ρ x)) → (∀ n ob, (n, ob) ∈ rd → σ[n]? = some ob) → ∃ a cap, ρ x = .slice a els.length cap) →
      OpR P o g rd (.u (.s (bytesOf els))) [] := by
    intro e els rd hsk hdk q1 q2 hsrc hso hshape
    refine OpR.read fun w0 ω0 β Φ ω σ w ρ hR hg hrd => ?_
    have hsz : ∀ e ∈ els, e.length = 1 := by rw [q2]; simp [bs]
    have hone : ∀ e ∈ els, ∀ p ∈ e, PV.one p = true := by rw [q2]; simp [bs, PV.one]
    obtain ⟨news, k1, k2, k3, k4, k5⟩ := (src_ok (P := P) hR (hg x) hsrc hso hrd (by omega) hsz hone).ex
    have hlb : els.length = (bytesOf els).length := by simp [bytesOf]
    have hnews : news = ((bytesOf els).map fun b => (b.toNat : Int)).map (Value.int .u8) := by
      apply List.ext_getElem?
      intro j
      by_cases hj : j < els.length
      · have hnj : news[j]? = some (news[j]'(by omega)) := List.getElem?_eq_getElem (by omega)
        have hbj : (bytesOf els)[j]? = some ((bytesOf els)[j]'(by omega)) := List.getElem?_eq_getElem (by omega)
        have hej : els[j]? = some [.i .u8 ((bytesOf els)[j]'(by omega)).toNat] := by
          conv => lhs; rw [q2]
          simp only [bs, List.getElem?_map, hbj, Option.map_some]
        have := k4 j _ 0 _ (news[j]'(by omega)) hej rfl (by rw [Nat.mul_one, Nat.add_zero]; exact hnj)
        rw [hnj]
        simp only [List.getElem?_map, hbj, Option.map_some]
        generalize news[j]'(by omega) = q at this
        cases this
        rfl
      · rw [List.getElem?_eq_none (by omega), List.getElem?_eq_none (by simp; omega)]
    obtain ⟨a, cap, hsh⟩ := hshape w0 ω0 β Φ ω σ w ρ hR hg hrd
    refine ⟨_, hex ρ w w (.string ⟨(bytesOf els).toArray⟩) ?_, V.mk_s _⟩
    rw [hsh, run_convert_bytes_string w s d e a _ cap (slice_of hs hsk) (isU8_inv q1) (str_of hd hdk)]
    have h2 := k2 w rfl
    rw [hsh] at h2
    cases a with
    | none =>
      simp [Builtin.firstCells] at h2
      rw [h2] at k3
      have : els = [] := List.eq_nil_of_length_eq_zero (by simpa using k3.symm)
      subst this
      simp [Conv.bytesToString, bytesOf]
      rfl
    | some a =>
      simp only [Builtin.firstCells, Nat.mul_one] at h2
      rw [hnews] at h2
      rw [run_bytesToString w a els.length cap _ h2, foldl_push_byteCells]
      have he0 : ByteArray.empty.data = #[] := rfl
      rw [he0]
      simp
  split at he
  · rename_i q k qq n hsk hdk hx
    cases he
    refine OpR.pure fun β Φ ρ w hg => ⟨_, hex ρ w w (.int k (k.wrap n)) ?_, V.mk_i _ _⟩
    rw [(hx ▸ hg x : V β Φ (.u (.i qq n)) (ρ x)).inv_i]
    simp [convert, run_underlying (int_of hs hsk), run_underlying (int_of hd hdk), Conv.intToInt]
  · rename_i l hsk hdk hx
    cases he
    refine OpR.pure fun β Φ ρ w hg => ⟨_, hex ρ w w (.string ⟨l.toArray⟩) ?_, V.mk_s _⟩
    rw [(hx ▸ hg x : V β Φ (.u (.s l)) (ρ x)).inv_s]
    simp [convert, run_underlying (str_of hs hsk), run_underlying (str_of hd hdk)]
  · rename_i e l hsk hdk hx
    cases he
    obtain ⟨q1, q2⟩ := hob
    intro w0 ω0 β Φ ω σ w ρ hR hg hrd
    have hv := (hx ▸ hg x : V β Φ (.u (.s l)) (ρ x)).inv_s
    have hrun := run_bytes_of_string (P := P) w s d e ⟨l.toArray⟩ (str_of hs hsk) (slice_of hd hdk) (isU8_inv q1)
    have hsize : (⟨l.toArray⟩ : ByteArray).size = l.length := by simp [ByteArray.size]
    rw [hsize] at hrun
    have hge := grownCap_ge w l.length 0 e
    obtain ⟨Φ', ω', r1, r2, r3⟩ := hR.drew.frost (.cells (bytesRow ⟨l.toArray⟩ (grownCap w l.length 0 e)) e ((bytesRow ⟨l.toArray⟩ (grownCap w l.length 0 e)).size, (bytesRow ⟨l.toArray⟩ (grownCap w l.length 0 e)).size + 1))
    have hbl : (bs l).length = l.length := by simp [bs]
    refine ⟨_, _, _, β, Φ', ω', hex ρ w _ _ (by rw [hv]; exact hrun), .inl rfl, BExt.refl _, rfl, r1, ?_, r3⟩
    rw [show (SV.u (.fz (bs l) none)) = SV.u (.fz (bs l) none) from rfl, ← hbl]
    refine V.fz_new (sz := 1) r2 (by simp [bs]) (by rw [hbl]; exact hge) (by rw [hbl]; exact grownCap_le_maxLen w _ _ _ (by unfold maxLen; omega)) ?_ (fun i x' j p u h1 h2 h3 => ?_) (by simp)
    · rw [hbl]; simp [bytesRow, hsize]
    · simp only [bs, List.getElem?_map] at h1
      obtain ⟨b, hb, rfl⟩ := Option.map_eq_some_iff.1 h1
      cases j with
      | zero =>
        simp at h2; subst h2
        have hi := (List.getElem?_eq_some_iff.1 hb)
        obtain ⟨hi1, hi2⟩ := hi
        rw [Nat.mul_one, Nat.add_zero, bytesRow_at _ _ _ (by simpa using hi1)] at h3
        simp at h3
        rw [hi2] at h3
        subst h3
        exact .i _ _
      | succ j => simp at h2
  · rename_i e els c hsk hdk hx
    cases he
    refine back e els [] hsk hdk hob.1 hob.2 (by rw [hx]; rfl) (by rw [hx]; trivial) fun w0 ω0 β Φ ω σ w ρ hR hg hrd => ?_
    obtain ⟨sz, a, cap, f, h, _⟩ := (hx ▸ hg x : V β Φ (.u (.fz els c)) (ρ x)).inv_fz
    exact ⟨_, _, h⟩
  · rename_i e n hsk hdk hx
    split at he <;> cases he
    rename_i T sz els hσ
    refine back e els _ hsk hdk hob.1 hob.2 (by rw [hx]; simp [srcOf, hσ]) (by rw [hx]; trivial) fun w0 ω0 β Φ ω σ w ρ hR hg hrd => ?_
    obtain ⟨v', hβ, hO⟩ := hR.at_ (hrd n (.row T sz els) (by simp))
    have hv' := ((hx ▸ hg x : V β Φ (.h n) (ρ x)).inv_h).1
    rw [hβ] at hv'
    have hv' := (Option.some.inj hv').symm
    rcases hO with ⟨a, rfl, rfl⟩ | ⟨b, cap, cs, rfl, _⟩
    · exact ⟨_, _, hv'⟩
    · exact ⟨_, _, hv'⟩
  · rename_i e n sz lo top hsk hdk hx
    split at he <;> cases he
    rename_i T s els hσ
    obtain ⟨q1, q2, q3, q4⟩ := hob
    refine back e _ _ hsk hdk q1 q2 (by rw [hx]; simp [srcOf, hσ]) (by rw [hx]; simp only [srcObs, hσ]; exact ⟨q3, q4⟩) fun w0 ω0 β Φ ω σ w ρ hR hg hrd => ?_
    obtain ⟨a, a', l, c, hβ, hv, p1, p2, p3⟩ := (hx ▸ hg x : V β Φ (.sl n sz lo top) (ρ x)).inv_sl
    refine ⟨_, _, by rw [hv, show ((els.drop lo).take (top - lo)).length = top - lo by simp; omega]⟩
  · cases he
end Go.Nm
