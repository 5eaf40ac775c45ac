/- The rule of a region that draws its order. -/
import Derived.Test.YteoihmgigmiajaaNm17
set_option linter.all false
set_option linter.unusedSimpArgs false
set_option linter.unusedVariables false
namespace Go.Nm

def maskOf (acc : List Nat) (o : Oper) : Nat := o.after.toList.foldl (fun s e => if Region.binds .any e then s ||| 2 ^ e.on ||| acc.getD e.on 0 else s) 0

def masksOf : List Oper → List Nat → List Nat
  | [], acc => acc
  | o :: os, acc => masksOf os (acc ++ [maskOf acc o])

/-- the slots of two operations do not meet -/
def apartS (x y : Option Nat × List Nat) : Bool :=
  (match x.1 with | some d => !y.2.contains d && y.1 != some d | none => true) &&
  (match y.1 with | some d => !x.2.contains d | none => true)

def pairsOK (mask : Nat) (y : Option Nat × List Nat) : Nat → List (Option Nat × List Nat) → Bool
  | _, [] => true
  | i, x :: l => (mask.testBit i || apartS x y) && pairsOK mask y (i + 1) l

def slotsOK (ops : Array Oper) : List Oper → List Nat → List (Option Nat × List Nat) → Nat → Bool
  | [], _, _, _ => true
  | o :: os, m :: ms, acc, k => o.after.toList.all (fun e => !Region.binds .any e || decide (e.on < k)) && pairsOK m (o.dst, o.looksAt ops) 0 acc && slotsOK ops os ms (acc ++ [(o.dst, o.looksAt ops)]) (k + 1)
  | _ :: _, [], _, _ => false

def drawOK (ops : Array Oper) : Bool := slotsOK ops ops.toList (masksOf ops.toList []) [] 0

theorem foldl_mask {acc : List Nat} {i : Nat} : ∀ (es : List Edge) (s : Nat), (es.foldl (fun s e => if Region.binds .any e then s ||| 2 ^ e.on ||| acc.getD e.on 0 else s) s).testBit i = true →
    s.testBit i = true ∨ ∃ e ∈ es, Region.binds .any e = true ∧ (i = e.on ∨ (acc.getD e.on 0).testBit i = true)
  | [], s, h => .inl h
  | e :: es, s, h => by
    rw [List.foldl_cons] at h
    rcases foldl_mask es _ h with h | ⟨e', he, hb, h⟩
    · by_cases hb : Region.binds .any e = true
      · rw [if_pos hb] at h
        simp only [Nat.testBit_or, Bool.or_eq_true, Nat.testBit_two_pow] at h
        rcases h with (h | h) | h
        · exact .inl h
        · exact .inr ⟨e, by simp, hb, .inl (of_decide_eq_true h).symm⟩
        · exact .inr ⟨e, by simp, hb, .inr h⟩
      · rw [if_neg hb] at h; exact .inl h
    · exact .inr ⟨e', by simp [he], hb, h⟩

theorem maskOf_bit {acc : List Nat} {o : Oper} {i : Nat} (h : (maskOf acc o).testBit i = true) : ∃ e ∈ o.after.toList, Region.binds .any e = true ∧ (i = e.on ∨ (acc.getD e.on 0).testBit i = true) := by
  rcases foldl_mask _ _ h with h | h
  · simp at h
  · exact h

theorem masksOf_at : ∀ (os : List Oper) (acc : List Nat), (∀ i, i < acc.length → (masksOf os acc)[i]? = acc[i]?) ∧ ∀ j o, os[j]? = some o → (masksOf os acc)[acc.length + j]? = some (maskOf ((masksOf os acc).take (acc.length + j)) o)
  | [], acc => ⟨fun _ _ => rfl, fun j o h => by simp at h⟩
  | o :: os, acc => by
    obtain ⟨h1, h2⟩ := masksOf_at os (acc ++ [maskOf acc o])
    simp only [masksOf]
    refine ⟨fun i hi => by rw [h1 i (by simp; omega), List.getElem?_append_left hi], fun j o' hj => ?_⟩
    cases j with
    | zero =>
      simp at hj; subst hj
      have ht : (masksOf os (acc ++ [maskOf acc o])).take acc.length = acc := by
        apply List.ext_getElem?
        intro i
        by_cases hi : i < acc.length
        · rw [List.getElem?_take_of_lt hi, h1 i (by simp; omega), List.getElem?_append_left hi]
        · rw [List.getElem?_eq_none (l := acc) (by omega), List.getElem?_eq_none (by simp; omega)]
      rw [Nat.add_zero, ht, h1 acc.length (by simp), List.getElem?_append_right (by omega)]; simp
    | succ j =>
      have := h2 j o' (by simpa using hj)
      rw [show acc.length + (j + 1) = (acc ++ [maskOf acc o]).length + j by simp; omega]
      exact this

theorem take_getD {l : List Nat} {j k i : Nat} (h : ((l.take j).getD k 0).testBit i = true) : (l.getD k 0).testBit i = true := by
  by_cases hk : k < j
  · rw [List.getD_eq_getElem?_getD, List.getElem?_take_of_lt hk, ← List.getD_eq_getElem?_getD] at h; exact h
  · rw [List.getD_eq_getElem?_getD, List.getElem?_eq_none (by simp; omega)] at h; simp at h

/-- closed under what is waited for -/
def Closed (masks : List Nat) (D : Nat → Bool) : Prop := ∀ j i, D j = true → (masks.getD j 0).testBit i = true → D i = true

theorem closed_ready {ops : Array Oper} {D : Nat → Bool} (hD : Closed (masksOf ops.toList []) D) {j : Nat} {o : Oper} (hj : ops[j]? = some o) (hr : ∀ e ∈ o.after, Region.binds .any e = true → D e.on = true) {i : Nat}
    (h : ((masksOf ops.toList []).getD j 0).testBit i = true) : D i = true := by
  have hm := (masksOf_at ops.toList []).2 j o (by simpa using hj)
  simp only [List.length_nil, Nat.zero_add] at hm
  rw [List.getD_eq_getElem?_getD, hm, Option.getD_some] at h
  obtain ⟨e, he, hb, h⟩ := maskOf_bit h
  have hd := hr e (by simpa using he) hb
  rcases h with rfl | h
  · exact hd
  · exact hD _ _ hd (take_getD h)

theorem pairsOK_at {mask : Nat} {y : Option Nat × List Nat} : ∀ {l : List (Option Nat × List Nat)} {k : Nat}, pairsOK mask y k l = true → ∀ i x, l[i]? = some x → mask.testBit (k + i) = true ∨ apartS x y = true
  | x :: l, k, h, i, z, hz => by
    simp only [pairsOK, Bool.and_eq_true, Bool.or_eq_true] at h
    cases i with
    | zero => simp at hz; subst hz; exact h.1
    | succ i =>
      have := pairsOK_at h.2 i z (by simpa using hz)
      rwa [show k + 1 + i = k + (i + 1) by omega] at this

theorem slotsOK_at {ops : Array Oper} (os : List Oper) : ∀ (ms : List Nat) (acc : List (Option Nat × List Nat)) (k : Nat), acc.length = k → slotsOK ops os ms acc k = true →
    ∀ j o, os[j]? = some o → (∀ e ∈ o.after.toList, Region.binds .any e = true → e.on < k + j) ∧ ∀ i x, (acc ++ os.map fun o => (o.dst, o.looksAt ops))[i]? = some x → i < k + j → (ms.getD j 0).testBit i = true ∨ apartS x (o.dst, o.looksAt ops) = true := by
  induction os with
  | nil => intro ms acc k _ _ j o hj; simp at hj
  | cons o os ih =>
    intro ms acc k hk h j o' hj
    cases ms with
    | nil => simp [slotsOK] at h
    | cons m ms =>
      simp only [slotsOK, Bool.and_eq_true] at h
      obtain ⟨⟨h1, h2⟩, h3⟩ := h
      cases j with
      | zero =>
        simp at hj; subst hj
        refine ⟨fun e he hb => ?_, fun i x hx hi => ?_⟩
        · have := List.all_eq_true.1 h1 e he
          simp [hb] at this; omega
        · rw [List.getElem?_append_left (by omega)] at hx
          have := pairsOK_at h2 i x hx
          simpa using this
      | succ j =>
        obtain ⟨h4, h5⟩ := ih ms (acc ++ [(o.dst, o.looksAt ops)]) (k + 1) (by simp [hk]) h3 j o' (by simpa using hj)
        refine ⟨fun e he hb => by have := h4 e he hb; omega, fun i x hx hi => ?_⟩
        have := h5 i x (by rw [List.append_assoc]; exact hx) (by omega)
        rw [List.getD_cons_succ]
        exact this

theorem chkN_at {mask : Nat} {rj wj : List Nat} : ∀ {l : List (List Nat × List Nat)} {k : Nat}, chkN mask k l rj wj = true → ∀ i x, l[i]? = some x → mask.testBit (k + i) = true ∨ (apartN x.2 rj = true ∧ apartN x.2 wj = true ∧ apartN x.1 wj = true)
  | (ri, wi) :: l, k, h, i, z, hz => by
    simp only [chkN, Bool.and_eq_true, Bool.or_eq_true] at h
    cases i with
    | zero => simp at hz; subst hz; rcases h.1 with h | h; exact .inl h; exact .inr ⟨h.1.1, h.1.2, h.2⟩
    | succ i =>
      have := chkN_at h.2 i z (by simpa using hz)
      rwa [show k + 1 + i = k + (i + 1) by omega] at this

theorem apartN_at {a b : List Nat} (h : apartN a b = true) {n : Nat} (ha : n ∈ a) (hb : n ∈ b) : False := by
  have := List.all_eq_true.1 h n ha
  simp at this
  exact this hb

/-! ### the records of a walk in the text's order -/
structure GoodR (P : Program) (c : Cx) (ops : Array Oper) (e0 : Env) (σ0 : List SObj) (rs : List Rc) : Prop where
  op : ∀ (j : Nat) (q : Rc), rs[j]? = some q → ops[j]? = some q.o
  step : ∀ (j : Nat) (q : Rc), rs[j]? = some q → StepOK P c ops q.o (envTo (rs.take j) e0) (memTo (rs.take j) σ0) q.rd q.r q.wr
  apart : ∀ (j : Nat) (q : Rc) (i : Nat) (p : Rc), rs[j]? = some q → rs[i]? = some p → i < j → ((masksOf ops.toList []).getD j 0).testBit i = true ∨ (apartN (p.wr.map (·.1)) q.rd = true ∧ apartN (p.wr.map (·.1)) (q.wr.map (·.1)) = true ∧ apartN p.rd (q.wr.map (·.1)) = true)

theorem envTo_append : ∀ (l l' : List Rc) (e : Env), envTo (l ++ l') e = envTo l' (envTo l e)
  | [], _, _ => rfl
  | q :: l, l', e => by simp only [List.cons_append, envTo]; exact envTo_append l l' _
theorem memTo_append : ∀ (l l' : List Rc) (e : List SObj), memTo (l ++ l') e = memTo l' (memTo l e)
  | [], _, _ => rfl
  | q :: l, l', e => by simp only [List.cons_append, memTo]; exact memTo_append l l' _

theorem evDraw_good {P : Program} {c : Cx} {ops : Array Oper} (hsl : ∀ j s, slotOf ops j = some s → s < c.nt) {e0 : Env} {σ0 : List SObj} {K : Env → List SObj → Prop} :
    ∀ (os : List Oper) (pre : List Rc) (N : Nat), ops.toList.drop pre.length = os → pre.length + os.length = ops.size → GoodR P c ops e0 σ0 pre →
    evDraw P (slotOf ops) (masksOf ops.toList []) os pre.length (envTo pre e0) (memTo pre σ0) N (pre.map fun q => (q.rd, q.wr.map (·.1))) K →
    ∃ rs, GoodR P c ops e0 σ0 rs ∧ rs.length = ops.size ∧ K (envTo rs e0) (memTo rs σ0)
  | [], pre, N, hd, hl, hg, h => ⟨pre, hg, by simpa using hl, h⟩
  | o :: os, pre, N, hd, hl, hg, h => by
    have ho : ops[pre.length]? = some o := by
      have := congrArg (·[0]?) hd
      simpa using this
    have hd' : ops.toList.drop (pre.length + 1) = os := by
      have := congrArg (List.drop 1) hd
      rw [List.drop_drop] at this
      simpa [Nat.add_comm] using this
    obtain ⟨rd, r, wr, ⟨hchk, hK⟩, hS⟩ := evDStep_ok ho hsl h
    let q : Rc := ⟨o, rd.map (·.1), r, wr⟩
    refine evDraw_good hsl os (pre ++ [q]) (if usesN o.op then N + 1 else N) (by simpa using hd') (by simp at hl ⊢; omega) ⟨fun j p hj => ?_, fun j p hj => ?_, fun j p i p' hj hi hij => ?_⟩ ?_
    · by_cases hlt : j < pre.length
      · rw [List.getElem?_append_left hlt] at hj; exact hg.op j p hj
      · rw [List.getElem?_append_right (by omega)] at hj
        obtain ⟨h0, rfl⟩ : j - pre.length = 0 ∧ q = p := by
          cases hjj : j - pre.length with
          | zero => rw [hjj] at hj; simp at hj; exact ⟨rfl, hj⟩
          | succ k => rw [hjj] at hj; simp at hj
        rw [show j = pre.length by omega]; exact ho
    · by_cases hlt : j < pre.length
      · rw [List.getElem?_append_left hlt] at hj
        rw [List.take_append_of_le_length (by omega)]
        exact hg.step j p hj
      · rw [List.getElem?_append_right (by omega)] at hj
        obtain ⟨h0, rfl⟩ : j - pre.length = 0 ∧ q = p := by
          cases hjj : j - pre.length with
          | zero => rw [hjj] at hj; simp at hj; exact ⟨rfl, hj⟩
          | succ k => rw [hjj] at hj; simp at hj
        rw [show j = pre.length by omega, List.take_append_of_le_length (by omega), List.take_length]
        exact hS
    · by_cases hlt : j < pre.length
      · rw [List.getElem?_append_left hlt] at hj
        rw [List.getElem?_append_left (by omega)] at hi
        exact hg.apart j p i p' hj hi hij
      · rw [List.getElem?_append_right (by omega)] at hj
        obtain ⟨h0, rfl⟩ : j - pre.length = 0 ∧ q = p := by
          cases hjj : j - pre.length with
          | zero => rw [hjj] at hj; simp at hj; exact ⟨rfl, hj⟩
          | succ k => rw [hjj] at hj; simp at hj
        have hje : j = pre.length := by omega
        subst hje
        rw [List.getElem?_append_left hij] at hi
        have := chkN_at hchk i (p'.rd, p'.wr.map (·.1)) (by rw [List.getElem?_map, hi]; rfl)
        rw [Nat.zero_add] at this
        exact this
    · rw [envTo_append, memTo_append, List.map_append]
      simp only [List.length_append, List.length_cons, List.length_nil, Nat.zero_add]
      exact hK

/-! ### any order -/
theorem envTo_take {rs : List Rc} {e0 : Env} {j : Nat} (t : Nat) : (envTo (rs.take j) e0).get t = slotAt rs e0 (fun i => decide (i < j)) t := by
  unfold slotAt
  conv => rhs; rw [← List.take_append_drop j rs]
  rw [num_append, List.map_append, runC_append, runC_off (l := (num (0 + _) (rs.drop j)).map (slotW t)), envTo_get (rs.take j) 0 e0 (fun i => decide (i < j)) t (fun i _ h => by simp at h ⊢; omega)]
  intro i ws hm _
  obtain ⟨⟨k, p⟩, hm', he⟩ := List.mem_map.1 hm
  have hkp := mem_num.1 hm'
  simp only [slotW, Prod.mk.injEq] at he
  obtain ⟨rfl, _⟩ := he
  have h2 := (List.getElem?_eq_some_iff.1 hkp.2).1
  simp at hkp h2 ⊢; omega

theorem memTo_take {rs : List Rc} {σ0 : List SObj} {j n : Nat} (hn : n < σ0.length) : (memTo (rs.take j) σ0)[n]? = some (nameAt rs σ0 (fun i => decide (i < j)) n) := by
  unfold nameAt
  conv => rhs; rw [← List.take_append_drop j rs]
  rw [num_append, List.map_append, runC_append, runC_off (l := (num (0 + _) (rs.drop j)).map (nameW n)), memTo_get (rs.take j) 0 σ0 (fun i => decide (i < j)) n hn (fun i _ h => by simp at h ⊢; omega)]
  intro i ws hm _
  obtain ⟨⟨k, p⟩, hm', he⟩ := List.mem_map.1 hm
  have hkp := mem_num.1 hm'
  simp only [nameW, Prod.mk.injEq] at he
  obtain ⟨rfl, _⟩ := he
  have h2 := (List.getElem?_eq_some_iff.1 hkp.2).1
  simp at hkp h2 ⊢; omega

section
variable {P : Program} {c : Cx} {ops : Array Oper} {e0 : Env} {σ0 : List SObj} {rs : List Rc}

theorem num_get {α : Type} {rs : List Rc} {f : Nat × Rc → Nat × Option α} (hf : ∀ q, (f q).1 = q.1) {i : Nat} {ws : Option α} (hm : (i, ws) ∈ (num 0 rs).map f) : ∃ p, rs[i]? = some p ∧ (f (i, p)).2 = ws := by
  obtain ⟨⟨k, p⟩, hm, he⟩ := List.mem_map.1 hm
  have := (mem_num.1 hm).2
  have hk := hf (k, p)
  rw [he] at hk
  simp at hk
  subst hk
  exact ⟨p, by simpa using this, by rw [he]⟩

theorem slots_pair (hs : drawOK ops = true) {i j : Nat} {p q : Oper} (hi : ops[i]? = some p) (hj : ops[j]? = some q) (hij : i < j) :
    ((masksOf ops.toList []).getD j 0).testBit i = true ∨ apartS (p.dst, p.looksAt ops) (q.dst, q.looksAt ops) = true := by
  have := (slotsOK_at _ _ [] 0 rfl hs j q (by simpa using hj)).2 i (p.dst, p.looksAt ops) (by simp [hi]) (by omega)
  exact this

theorem drawOK_back (hs : drawOK ops = true) {j : Nat} {q : Oper} (hj : ops[j]? = some q) : ∀ e ∈ q.after.toList, Region.binds .any e = true → e.on < j := by
  have := (slotsOK_at _ _ [] 0 rfl hs j q (by simpa using hj)).1
  simpa using this

theorem apartS_looks {x y : Option Nat × List Nat} (h : apartS x y = true) {d : Nat} : (x.1 = some d → d ∉ y.2 ∧ y.1 ≠ some d) ∧ (y.1 = some d → d ∉ x.2) := by
  simp only [apartS, Bool.and_eq_true] at h
  refine ⟨fun hx => ?_, fun hy => ?_⟩
  · have := h.1; rw [hx] at this; simp at this; exact this
  · have := h.2; rw [hy] at this; simpa using this

theorem inD_step (hs : drawOK ops = true) (hg : GoodR P c ops e0 σ0 rs) {D : Nat → Bool} {e : Env} {σ : List SObj} (hD : Closed (masksOf ops.toList []) D) (hI : InD rs e0 σ0 D e σ)
    {j : Nat} {q : Rc} (hj : rs[j]? = some q) (hjD : D j = false) (hr : ∀ e ∈ q.o.after, Region.binds .any e = true → D e.on = true) :
    (∀ t ∈ q.o.looksAt ops, e.get t = (envTo (rs.take j) e0).get t) ∧ (∀ n ∈ q.rd, n < σ0.length → σ[n]? = (memTo (rs.take j) σ0)[n]?) ∧
    InD rs e0 σ0 (addD D j) (e.put q.o.dst q.r) (setAll σ q.wr) ∧ Closed (masksOf ops.toList []) (addD D j) := by
  obtain ⟨hI1, hI2, hI3⟩ := hI
  have hop := hg.op j q hj
  have anc : ∀ {i : Nat}, ((masksOf ops.toList []).getD j 0).testBit i = true → D i = true := fun h => closed_ready hD hop hr h
  have late : ∀ {i : Nat}, D i = true → ((masksOf ops.toList []).getD i 0).testBit j = true → False := fun h1 h2 => by
    have := hD _ _ h1 h2; rw [hjD] at this; cases this
  refine ⟨fun t ht => ?_, fun n hn hlt => ?_, ⟨fun t => ?_, by rw [setAll_length]; exact hI2, fun n hn => ?_⟩, ?_⟩
  · rw [hI1, envTo_take]
    refine runC_congr fun i ws hm hne => ?_
    obtain ⟨p, hp, he⟩ := num_get (f := slotW t) (fun _ => rfl) hm
    have hd : p.o.dst = some t := by
      by_cases hd : p.o.dst = some t
      · exact hd
      · simp [slotW, hd] at he; exact absurd he.symm hne
    rcases Nat.lt_trichotomy i j with h | h | h
    · rcases slots_pair hs (hg.op i p hp) hop h with h' | h'
      · simp [h, anc h']
      · exact absurd ht ((apartS_looks h').1 hd).1
    · subst h; simp [hjD]
    · have : ¬ i < j := by omega
      simp only [this, decide_false]
      cases hDi : D i with
      | false => rfl
      | true =>
        rcases slots_pair hs hop (hg.op i p hp) h with h' | h'
        · exact (late hDi h').elim
        · exact absurd ht ((apartS_looks h').2 hd)
  · rw [hI3 n hlt, memTo_take hlt]
    congr 1
    refine runC_congr fun i ws hm hne => ?_
    obtain ⟨p, hp, he⟩ := num_get (f := nameW n) (fun _ => rfl) hm
    have hd : n ∈ p.wr.map (·.1) := mem_of_wget (by rw [show wget p.wr n = ws from he]; exact hne)
    rcases Nat.lt_trichotomy i j with h | h | h
    · rcases hg.apart j q i p hj hp h with h' | h'
      · simp [h, anc h']
      · exact (apartN_at h'.1 hd hn).elim
    · subst h; simp [hjD]
    · have : ¬ i < j := by omega
      simp only [this, decide_false]
      cases hDi : D i with
      | false => rfl
      | true =>
        rcases hg.apart i p j q hp hj h with h' | h'
        · exact (late hDi h').elim
        · exact (apartN_at h'.2.2 hn hd).elim
  · rw [get_put, hI1]
    unfold slotAt
    rw [runC_add (f := slotW t) (fun _ => rfl) hj]
    · simp only [slotW]
      by_cases hd : q.o.dst = some t
      · simp [hd]
      · simp [hd]
    · intro hne i p hp hne' hDi
      have hd : q.o.dst = some t := by
        by_cases hd : q.o.dst = some t
        · exact hd
        · simp [slotW, hd] at hne
      have hd' : p.o.dst = some t := by
        by_cases hd : p.o.dst = some t
        · exact hd
        · simp [slotW, hd] at hne'
      rcases Nat.lt_trichotomy i j with h | h | h
      · exact h
      · subst h; rw [hjD] at hDi; cases hDi
      · rcases slots_pair hs hop (hg.op i p hp) h with h' | h'
        · exact (late hDi h').elim
        · exact absurd hd' ((apartS_looks h').1 hd).2
  · rw [setAll_get q.wr σ n (by omega)]
    unfold nameAt
    rw [runC_add (f := nameW n) (fun _ => rfl) hj]
    · have : σ.getD n .dead = nameAt rs σ0 D n := by rw [List.getD_eq_getElem?_getD, hI3 n hn]; rfl
      rw [this]; rfl
    · intro hne i p hp hne' hDi
      rcases Nat.lt_trichotomy i j with h | h | h
      · exact h
      · subst h; rw [hjD] at hDi; cases hDi
      · rcases hg.apart i p j q hp hj h with h' | h'
        · exact (late hDi h').elim
        · exact (apartN_at h'.2.1 (mem_of_wget hne) (mem_of_wget hne')).elim
  · intro k i hk hi
    unfold addD at hk ⊢
    by_cases hkj : k = j
    · subst hkj; rw [anc hi]; simp
    · have : (k == j) = false := by simpa using hkj
      rw [this, Bool.false_or] at hk
      rw [hD k i hk hi]; simp
end

end Go.Nm
