/- A region that draws its order, done. -/
import Derived.Test.YteoihmgigmiajaaNm16
set_option linter.all false
set_option linter.unusedSimpArgs false
set_option linter.unusedVariables false
namespace Go.Nm

/-! ### one cell, and those who write it -/
def runC {V : Type} (D : Nat → Bool) : List (Nat × Option V) → V → V
  | [], v => v
  | (i, ws) :: l, v => runC D l (if D i then ws.getD v else v)

theorem runC_congr {V : Type} {D D' : Nat → Bool} : ∀ {l : List (Nat × Option V)} {v : V}, (∀ i ws, (i, ws) ∈ l → ws ≠ none → D i = D' i) → runC D l v = runC D' l v
  | [], _, _ => rfl
  | (i, ws) :: l, v, h => by
    unfold runC
    cases ws with
    | none => simp only [Option.getD_none, ite_self]; exact runC_congr fun k u hk hu => h k u (by simp [hk]) hu
    | some u =>
      rw [h i (some u) (by simp) (by simp)]
      exact runC_congr fun k u hk hu => h k u (by simp [hk]) hu

theorem runC_append {V : Type} {D : Nat → Bool} : ∀ {l l' : List (Nat × Option V)} {v : V}, runC D (l ++ l') v = runC D l' (runC D l v)
  | [], _, _ => rfl
  | (i, ws) :: l, l', v => by simp only [List.cons_append, runC]; exact runC_append

theorem runC_off {V : Type} {D : Nat → Bool} {l : List (Nat × Option V)} {v : V} (h : ∀ i ws, (i, ws) ∈ l → ws ≠ none → D i = false) : runC D l v = v := by
  induction l generalizing v with
  | nil => rfl
  | cons p l ih =>
    obtain ⟨i, ws⟩ := p
    unfold runC
    have : (if D i then ws.getD v else v) = v := by
      cases ws with
      | none => simp
      | some u => rw [h i (some u) (by simp) (by simp)]; rfl
    rw [this]
    exact ih fun k u hk hu => h k u (by simp [hk]) hu

/-! ### the record of a region -/
structure Rc where
  o : Oper
  rd : List Nat
  r : SV
  wr : List (Nat × SObj)

def wget (wr : List (Nat × SObj)) (n : Nat) : Option SObj :=
  match wr with
  | [] => none
  | (m, ob) :: r => match wget r n with
    | some x => some x
    | none => if m = n then some ob else none

theorem setAll_get : ∀ (wr : List (Nat × SObj)) (σ : List SObj) (n : Nat), n < σ.length → (setAll σ wr)[n]? = some ((wget wr n).getD (σ.getD n .dead))
  | [], σ, n, h => by simp [setAll, wget, List.getD_eq_getElem?_getD, List.getElem?_eq_getElem h]
  | (m, ob) :: r, σ, n, h => by
    simp only [setAll, wget]
    rw [setAll_get r (σ.set m ob) n (by simpa using h)]
    cases hw : wget r n with
    | some x => rfl
    | none =>
      simp only [Option.getD_none]
      by_cases hm : m = n
      · subst hm; simp [List.getD_eq_getElem?_getD, List.getElem?_set_self h]
      · rw [if_neg hm]; simp [List.getD_eq_getElem?_getD, List.getElem?_set_ne hm]

theorem setAll_length : ∀ (wr : List (Nat × SObj)) (σ : List SObj), (setAll σ wr).length = σ.length
  | [], _ => rfl
  | (m, ob) :: r, σ => by simp only [setAll]; rw [setAll_length r]; simp

theorem wget_none : ∀ {wr : List (Nat × SObj)} {n : Nat}, n ∉ wr.map (·.1) → wget wr n = none
  | [], _, _ => rfl
  | (m, ob) :: r, n, h => by
    simp at h
    simp only [wget]
    rw [wget_none (by simp; exact h.2), if_neg (fun e => h.1 e.symm)]

theorem mem_of_wget {wr : List (Nat × SObj)} {n : Nat} (h : wget wr n ≠ none) : n ∈ wr.map (·.1) := by
  by_cases hm : n ∈ wr.map (·.1)
  · exact hm
  · exact absurd (wget_none hm) h

def slotW (t : Nat) (q : Nat × Rc) : Nat × Option SV := (q.1, if q.2.o.dst = some t then some q.2.r else none)
def nameW (n : Nat) (q : Nat × Rc) : Nat × Option SObj := (q.1, wget q.2.wr n)

/-- records with their numbers -/
def num {α : Type} : Nat → List α → List (Nat × α)
  | _, [] => []
  | k, x :: l => (k, x) :: num (k + 1) l

theorem mem_num {α : Type} : ∀ {l : List α} {k i : Nat} {x : α}, (i, x) ∈ num k l ↔ k ≤ i ∧ l[i - k]? = some x
  | [], k, i, x => by simp [num]
  | y :: l, k, i, x => by
    simp only [num, List.mem_cons, Prod.mk.injEq, mem_num (l := l)]
    constructor
    · rintro (⟨rfl, rfl⟩ | ⟨h1, h2⟩)
      · simp
      · exact ⟨by omega, by rw [show i - k = (i - (k + 1)) + 1 by omega, List.getElem?_cons_succ]; exact h2⟩
    · rintro ⟨h1, h2⟩
      by_cases h : i = k
      · subst h; simp at h2; exact .inl ⟨rfl, h2.symm⟩
      · rw [show i - k = (i - (k + 1)) + 1 by omega, List.getElem?_cons_succ] at h2
        exact .inr ⟨by omega, h2⟩

theorem num_append {α : Type} : ∀ (l l' : List α) (k : Nat), num k (l ++ l') = num k l ++ num (k + l.length) l'
  | [], _, _ => by simp [num]
  | x :: l, l', k => by simp only [List.cons_append, num, num_append l l' (k + 1), List.length_cons]; congr 3; omega

/-- what stands in the slots and in memory when those of D are done -/
def slotAt (rs : List Rc) (e0 : Env) (D : Nat → Bool) (t : Nat) : SV := runC D ((num 0 rs).map (slotW t)) (e0.get t)
def nameAt (rs : List Rc) (σ0 : List SObj) (D : Nat → Bool) (n : Nat) : SObj := runC D ((num 0 rs).map (nameW n)) (σ0.getD n .dead)

/-- the text's order -/
def envTo : List Rc → Env → Env
  | [], e => e
  | q :: rs, e => envTo rs (e.put q.o.dst q.r)
def memTo : List Rc → List SObj → List SObj
  | [], σ => σ
  | q :: rs, σ => memTo rs (setAll σ q.wr)

theorem get_put (e : Env) (d : Option Nat) (r : SV) (t : Nat) : (e.put d r).get t = if d = some t then r else e.get t := by
  cases d with
  | none => simp [Env.put]
  | some d => simp [Env.put, Env.get]

theorem memTo_length : ∀ (rs : List Rc) (σ : List SObj), (memTo rs σ).length = σ.length
  | [], _ => rfl
  | q :: rs, σ => by simp only [memTo]; rw [memTo_length rs, setAll_length]

theorem envTo_get : ∀ (rs : List Rc) (k : Nat) (e : Env) (D : Nat → Bool) (t : Nat), (∀ i, k ≤ i → i < k + rs.length → D i = true) → (envTo rs e).get t = runC D ((num k rs).map (slotW t)) (e.get t)
  | [], _, _, _, _, _ => rfl
  | q :: rs, k, e, D, t, h => by
    simp only [envTo, num, List.map_cons, slotW, runC]
    rw [envTo_get rs (k + 1) _ D t (fun i h1 h2 => h i (by omega) (by simp; omega)), get_put, h k (by omega) (by simp)]
    by_cases hd : q.o.dst = some t
    · simp [hd]
    · simp [hd]

theorem memTo_get : ∀ (rs : List Rc) (k : Nat) (σ : List SObj) (D : Nat → Bool) (n : Nat), n < σ.length → (∀ i, k ≤ i → i < k + rs.length → D i = true) → (memTo rs σ)[n]? = some (runC D ((num k rs).map (nameW n)) (σ.getD n .dead))
  | [], _, σ, _, n, hn, _ => by simp [memTo, num, runC, List.getD_eq_getElem?_getD, List.getElem?_eq_getElem hn]
  | q :: rs, k, σ, D, n, hn, h => by
    simp only [memTo, num, List.map_cons, nameW, runC]
    rw [memTo_get rs (k + 1) _ D n (by rw [setAll_length]; exact hn) (fun i h1 h2 => h i (by omega) (by simp; omega)), h k (by omega) (by simp)]
    rw [List.getD_eq_getElem?_getD (l := setAll σ q.wr), setAll_get q.wr σ n hn]
    simp only [if_true, Option.getD_some]

/-- the state when those of D are done -/
def InD (rs : List Rc) (e0 : Env) (σ0 : List SObj) (D : Nat → Bool) (e : Env) (σ : List SObj) : Prop :=
  (∀ t, e.get t = slotAt rs e0 D t) ∧ σ.length = σ0.length ∧ ∀ n, n < σ0.length → σ[n]? = some (nameAt rs σ0 D n)

def addD (D : Nat → Bool) (j : Nat) (i : Nat) : Bool := i == j || D i

theorem runC_add {V : Type} {D : Nat → Bool} {j : Nat} {f : Nat × Rc → Nat × Option V} (hf : ∀ q, (f q).1 = q.1) {rs : List Rc} {q : Rc} (hq : rs[j]? = some q) {v : V} (hlate : (f (j, q)).2 ≠ none → ∀ i p, rs[i]? = some p → (f (i, p)).2 ≠ none → D i = true → i < j) :
    runC (addD D j) ((num 0 rs).map f) v = ((f (j, q)).2).getD (runC D ((num 0 rs).map f) v) := by
  have key : ∀ {i : Nat} {ws : Option V}, (i, ws) ∈ (num 0 rs).map f → ∃ p, rs[i]? = some p ∧ (f (i, p)).2 = ws := by
    intro i ws hm
    obtain ⟨⟨k, p⟩, hm, he⟩ := List.mem_map.1 hm
    have := (mem_num.1 hm).2
    have hk := hf (k, p)
    rw [he] at hk
    simp at hk
    subst hk
    exact ⟨p, by simpa using this, by rw [he]⟩
  cases hw : (f (j, q)).2 with
  | none =>
    simp only [Option.getD_none]
    refine runC_congr fun i ws hm hne => ?_
    obtain ⟨p, hp, he⟩ := key hm
    unfold addD
    have : i ≠ j := by
      rintro rfl
      rw [hq] at hp; cases hp
      rw [hw] at he; exact hne he.symm
    simp [this]
  | some x =>
    simp only [Option.getD_some]
    have hlate := hlate (by rw [hw]; simp)
    have hjl : j < rs.length := (List.getElem?_eq_some_iff.1 hq).1
    have hsplit : rs = rs.take j ++ q :: rs.drop (j + 1) := by
      have : rs[j] = q := (List.getElem?_eq_some_iff.1 hq).2
      rw [← this, List.getElem_cons_drop, List.take_append_drop]
    have htl : (rs.take j).length = j := by simp; omega
    have e1 : (num 0 rs).map f = (num 0 (rs.take j)).map f ++ (j, some x) :: (num (j + 1) (rs.drop (j + 1))).map f := by
      conv => lhs; rw [hsplit]
      rw [num_append, htl, List.map_append]
      simp only [num, List.map_cons, Nat.zero_add]
      have : f (j, q) = (j, some x) := by rw [← hw, Prod.ext_iff]; exact ⟨hf _, rfl⟩
      rw [this]
    rw [e1, runC_append]
    simp only [runC, addD, BEq.rfl, Bool.true_or, if_true, Option.getD_some]
    refine runC_off fun i ws hm hne => ?_
    obtain ⟨⟨k, p⟩, hm', he⟩ := List.mem_map.1 hm
    have hkp := mem_num.1 hm'
    have hk := hf (k, p)
    rw [he] at hk
    simp at hk
    subst hk
    have hp : rs[i]? = some p := by
      rw [List.getElem?_drop] at hkp
      rw [← hkp.2]; congr 1; omega
    cases hD : D i with
    | false =>
      have : (i == j) = false := by
        have := hkp.1
        simp; omega
      unfold addD; rw [this, hD]; rfl
    | true =>
      have := hlate i p hp (by rw [he]; exact hne) hD
      omega

end Go.Nm
