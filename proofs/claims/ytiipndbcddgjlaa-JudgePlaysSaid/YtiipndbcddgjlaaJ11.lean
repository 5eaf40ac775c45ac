import Derived.Test.YtiipndbcddgjlaaJ10
set_option linter.all false
set_option linter.unusedSimpArgs false
set_option linter.unusedVariables false
namespace Go.Proofs.Ytiipndbcddgjlaa
open Go.Nm

theorem aget_aput {α β : Type} [BEq α] [LawfulBEq α] (k k' : α) (x : β) : ∀ l : List (α × β), aget k (aput k' x l) = if k == k' then some x else aget k l
  | [] => by simp [aput, aget]
  | e :: l => by
    unfold aput
    by_cases h : (k' == e.1) = true
    · rw [if_pos h]
      have he := eq_of_beq h
      simp only [aget]
      by_cases hk : (k == k') = true
      · simp [hk]
      · have : (k == e.1) = false := by rw [← he]; simpa using hk
        simp [hk, this]
    · rw [if_neg h]
      simp only [aget]
      by_cases hk : (k == e.1) = true
      · have h1 := eq_of_beq hk
        have : (k == k') = false := by
          rw [h1]
          exact beq_eq_false_iff_ne.2 fun he => h (by rw [he]; exact beq_self_eq_true _)
        rw [if_pos hk, if_pos hk, this]; rfl
      · rw [if_neg hk, if_neg hk]
        exact aget_aput k k' x l

/-- every batch that was committed is told, or a later one of its client is -/
def OnceI (asked : List Bt) (J : Jd) : Prop := ∀ b ∈ asked, ∃ p, aget b.c J.ts = some p ∧ b.r ≤ p.1

theorem once_say {asked : List Bt} {J : Jd} (h : OnceI asked J) (cl r s : Int) (ws : List Wt) :
    ((sayS J cl r s ws).2.last = J.last ∧ OnceI asked (sayS J cl r s ws).2) ∨
    ((sayS J cl r s ws).2.last = J.last + 1 ∧ (∀ b ∈ asked, ¬ (b.c = cl ∧ b.r = r)) ∧ OnceI (asked ++ [⟨cl, r, s, ws⟩]) (sayS J cl r s ws).2) := by
  have told : ∀ p : Int × Int × Int, p.1 = r → (inT J.ts cl && decide (r < (getT J.ts cl).1)) = false → (inT J.ts cl && (getT J.ts cl).1 == r) = false →
      (∀ b ∈ asked, ¬ (b.c = cl ∧ b.r = r)) ∧ ∀ b ∈ asked, ∃ q, aget b.c (aput cl p J.ts) = some q ∧ b.r ≤ q.1 := by
    intro p hp h1 h2
    have key : ∀ b ∈ asked, b.c = cl → b.r < r := by
      intro b hb hc
      obtain ⟨q, hq, hle⟩ := h b hb
      rw [hc] at hq
      have hin : inT J.ts cl = true := by simp [inT, hq]
      have hg : getT J.ts cl = q := by simp [getT, hq]
      rw [hin, hg] at h1 h2
      simp at h1 h2
      omega
    refine ⟨fun b hb hc => ?_, fun b hb => ?_⟩
    · have := key b hb hc.1; omega
    · rw [aget_aput]
      by_cases hc : (b.c == cl) = true
      · rw [if_pos hc]
        exact ⟨p, rfl, by have := key b hb (eq_of_beq hc); omega⟩
      · rw [if_neg hc]; exact h b hb
  unfold sayS
  split
  · exact .inl ⟨rfl, h⟩
  · split
    · exact .inl ⟨rfl, h⟩
    · rename_i h2
      split
      · exact .inl ⟨rfl, h⟩
      · rename_i h3
        split
        · exact .inl ⟨rfl, h⟩
        · split
          · exact .inl ⟨rfl, h⟩
          · split
            · exact .inl ⟨rfl, (told (r, 0, 191) rfl (by simpa using h3) (by simpa using h2)).2⟩
            · obtain ⟨t1, t2⟩ := told (r, J.last + 1, 0) rfl (by simpa using h3) (by simpa using h2)
              refine .inr ⟨rfl, t1, fun b hb => ?_⟩
              rcases List.mem_append.1 hb with hb | hb
              · exact t2 b hb
              · rw [List.mem_singleton.1 hb]
                simp only
                rw [aget_aput]; simp
end Go.Proofs.Ytiipndbcddgjlaa
