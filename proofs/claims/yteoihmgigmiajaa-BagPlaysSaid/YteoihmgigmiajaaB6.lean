import Derived.Test.YteoihmgigmiajaaB5
set_option linter.all false
set_option linter.unusedSimpArgs false
set_option linter.unusedVariables false
namespace Go.Proofs.Yteoihmgigmiajaa
open Go.Nm

structure Ac where
  k : Int
  at_ : Int
  fr : Int
  to : Int
  ls : List Pk
def arow (x : Ac) : List PV := [.i .i64 x.k, .i .i64 x.at_, .i .i64 x.fr, .i .i64 x.to, .fz (x.ls.map prow) none]
def acat (l : List Ac) (i : Nat) : Ac := l.getD i ⟨0, 0, 0, 0, []⟩
theorem arow_at {l : List Ac} {i : Nat} (h : i < l.length) : (l.map arow).getD i [] = [.i .i64 (acat l i).k, .i .i64 (acat l i).at_, .i .i64 (acat l i).fr, .i .i64 (acat l i).to, .fz ((acat l i).ls.map prow) none] := by
  rw [List.getD_eq_getElem?_getD, List.getElem?_map, List.getElem?_eq_getElem h, acat, List.getD_eq_getElem?_getD, List.getElem?_eq_getElem h]; rfl

/-! ### how often a body was put -/
def kent (p : List UInt8 × Int) : PV × PV := (.s p.1, .i .i64 p.2)
def kcnt (ks : List (List UInt8 × Int)) (k : List UInt8) : Int :=
  match ks with
  | [] => 0
  | e :: r => if k = e.1 then e.2 else kcnt r k
def kinc (k : List UInt8) (n : Int) : List (List UInt8 × Int) → List (List UInt8 × Int)
  | [] => [(k, n)]
  | e :: r => if k = e.1 then (k, n) :: r else e :: kinc k n r
theorem kkeys (k : List UInt8) (ks : List (List UInt8 × Int)) : keysOK (.s k) (ks.map kent) := by
  intro e he
  obtain ⟨x, _, rfl⟩ := List.mem_map.1 he
  simp [kent, keyEq]
theorem kgot (k : List UInt8) : ∀ ks : List (List UInt8 × Int), (findPV (.s k) (ks.map kent)).getD (.i .i64 0) = .i .i64 (kcnt ks k)
  | [] => rfl
  | e :: r => by
    simp only [List.map_cons, findPV, kent, keyEq, Option.some.injEq, beq_iff_eq, kcnt]
    by_cases h : k = e.1
    · rw [if_pos h, if_pos h]; rfl
    · rw [if_neg h, if_neg h]; exact kgot k r
theorem kput (k : List UInt8) (n : Int) : ∀ ks : List (List UInt8 × Int), updPV (.s k) (.i .i64 n) (ks.map kent) = (kinc k n ks).map kent
  | [] => rfl
  | e :: r => by
    simp only [List.map_cons, updPV, kent, keyEq, Option.some.injEq, beq_iff_eq, kinc]
    by_cases h : k = e.1
    · rw [if_pos h, if_pos h]; rfl
    · rw [if_neg h, if_neg h]
      have := kput k n r
      unfold kent at this ⊢
      simp only [List.map_cons]
      rw [this]
theorem kcnt_inc (k k' : List UInt8) (n : Int) : ∀ ks : List (List UInt8 × Int), kcnt (kinc k n ks) k' = if k' = k then n else kcnt ks k'
  | [] => by simp [kinc, kcnt]
  | e :: r => by
    unfold kinc
    by_cases h : k = e.1
    · rw [if_pos h]
      simp only [kcnt]
      by_cases h2 : k' = k
      · rw [if_pos h2, if_pos h2]
      · rw [if_neg h2, if_neg h2, if_neg (by rw [← h]; exact h2)]
    · rw [if_neg h]
      simp only [kcnt]
      by_cases h2 : k' = e.1
      · rw [if_pos h2, if_pos h2, if_neg (by rw [h2]; exact fun e => h e.symm)]
      · rw [if_neg h2, if_neg h2]; exact kcnt_inc k k' n r

/-- whatever is in the bag was put, and nothing was put too often -/
def PutI (ps : List Pk) (ks : List (List UInt8 × Int)) (n : Nat) : Prop := (∀ k, 0 ≤ kcnt ks k ∧ kcnt ks k ≤ (n : Int)) ∧ ∀ p ∈ ps, 1 ≤ kcnt ks p.2.2

theorem PutI.mono {ps ps' : List Pk} {ks : List (List UInt8 × Int)} {n m : Nat} (h : PutI ps ks n) (hm : n ≤ m) (hs : ∀ p ∈ ps', p ∈ ps) : PutI ps' ks m :=
  ⟨fun k => ⟨(h.1 k).1, by have := (h.1 k).2; omega⟩, fun p hp => h.2 p (hs p hp)⟩
theorem PutI.put {ps : List Pk} {ks : List (List UInt8 × Int)} {n : Nat} (h : PutI ps ks n) (p : Pk) (m : Nat) : PutI (ps ++ [p].take m) (kinc p.2.2 (kcnt ks p.2.2 + 1) ks) (n + 1) := by
  have hall : ∀ k, kcnt ks k ≤ kcnt (kinc p.2.2 (kcnt ks p.2.2 + 1) ks) k := fun k => by
    rw [kcnt_inc]; split
    · rename_i e; subst e; omega
    · omega
  refine ⟨fun k => ?_, fun x hx => ?_⟩
  · rw [kcnt_inc]
    have h1 := h.1 k
    have h2 := h.1 p.2.2
    split <;> omega
  · rcases List.mem_append.1 hx with hx | hx
    · have := h.2 x hx
      have := hall x.2.2
      omega
    · have : x = p := by simpa using List.mem_of_mem_take hx
      subst this
      rw [kcnt_inc, if_pos rfl]
      have := (h.1 x.2.2).1
      omega
theorem pat_mem {ps : List Pk} {i : Nat} (h : i < ps.length) : pat ps i ∈ ps := by
  rw [pat, List.getD_eq_getElem?_getD, List.getElem?_eq_getElem h]; exact List.getElem_mem h
end Go.Proofs.Yteoihmgigmiajaa
