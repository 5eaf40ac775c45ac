/- An environment, kept small. -/
import Derived.Test.YteoihmgigmiajaaNm27
set_option linter.all false
set_option linter.unusedSimpArgs false
set_option linter.unusedVariables false
namespace Go.Nm

def Env.keep : List Nat → Env → Env
  | _, [] => []
  | ks, (d, x) :: r => if ks.contains d then (d, x) :: Env.keep (ks.erase d) r else Env.keep ks r

theorem keep_get : ∀ (e : Env) (ks : List Nat) (t : Nat), (Env.keep ks e).get t = .j ∨ (Env.keep ks e).get t = e.get t
  | [], ks, t => .inl rfl
  | (d, x) :: r, ks, t => by
    unfold Env.keep
    by_cases hd : d = t
    · subst hd
      split
      · right; simp [Env.get]
      · rename_i h
        left
        have : ∀ (r : Env) (ks : List Nat), ks.contains d = false → (Env.keep ks r).get d = .j := by
          intro r
          induction r with
          | nil => intro ks _; rfl
          | cons p r ih =>
            obtain ⟨d', x'⟩ := p
            intro ks hk
            unfold Env.keep
            split
            · rename_i h'
              have hne : d' ≠ d := by rintro rfl; rw [hk] at h'; cases h'
              simp only [Env.get, if_neg hne]
              refine ih _ ?_
              cases hc : (ks.erase d').contains d with
              | false => rfl
              | true =>
                have := List.mem_of_mem_erase (List.contains_iff_mem.1 hc)
                rw [List.contains_iff_mem.2 this] at hk; cases hk
            · exact ih ks hk
        exact this r ks (by simpa using h)
    · have : (Env.get ((d, x) :: r) t) = Env.get r t := by simp [Env.get, hd]
      rw [this]
      split
      · simp only [Env.get, if_neg hd]; exact keep_get r _ t
      · exact keep_get r ks t

/-- slots that are never read again are let go -/
theorem wps_keep {P : Program} {c : Cx} {e e' : Env} {σ : List SObj} {Q : Exit → Env → List SObj → Prop} {code : Code} (ks : List Nat) (he : Env.keep ks e = e') (h : WPS P c code e' σ Q) : WPS P c code e σ Q := by
  subst he
  exact wps_ent (ent_sub fun t => keep_get e ks t) h

theorem List.contains_lit_cons (a b : Nat) (l : List Nat) : (b :: l).contains a = if a = b then true else l.contains a := by
  by_cases h : a = b
  · subst h; simp
  · simp [h]
theorem List.erase_lit_cons (a b : Nat) (l : List Nat) : (b :: l).erase a = if b = a then l else b :: l.erase a := by
  by_cases h : b = a
  · subst h; simp
  · simp [List.erase_cons, h]
theorem List.contains_lit_nil (a : Nat) : ([] : List Nat).contains a = false := rfl
theorem List.erase_lit_nil (a : Nat) : ([] : List Nat).erase a = [] := rfl
theorem keep_nil (ks : List Nat) : Env.keep ks [] = [] := by cases ks <;> rfl
theorem keep_done (e : Env) : Env.keep [] e = [] := by
  induction e with
  | nil => rfl
  | cons p r ih => obtain ⟨d, x⟩ := p; unfold Env.keep; simpa using ih
theorem keep_cons (ks : List Nat) (d : Nat) (x : SV) (r : Env) : Env.keep ks ((d, x) :: r) = if ks.contains d then (d, x) :: Env.keep (ks.erase d) r else Env.keep ks r := by cases ks <;> rfl
end Go.Nm
