import Derived.Test.YtiipndbcddgjlaaJ14
set_option linter.all false
set_option linter.unusedSimpArgs false
set_option linter.unusedVariables false
namespace Go.Proofs.Ytiipndbcddgjlaa
open Go.Nm

theorem getK_aput (k k' : List UInt8) (n : Int) (ks : List (List UInt8 × Int)) : getK (aput k' n ks) k = if k = k' then n else getK ks k := by
  unfold getK
  rw [aget_aput]
  by_cases h : k = k'
  · subst h; simp
  · rw [if_neg h, if_neg (by simpa using h)]

theorem getK_cmI (ws : List Wt) (n : Int) (k : List UInt8) : ∀ (f i : Nat) (ks : List (List UInt8 × Int)),
    ((∃ j, i ≤ j ∧ j < i + f ∧ (wat ws j).1 = k) → getK (cmI ws n f i ks) k = n) ∧ ((∀ j, i ≤ j → j < i + f → ¬ (wat ws j).1 = k) → getK (cmI ws n f i ks) k = getK ks k)
  | 0, i, ks => ⟨fun ⟨j, h1, h2, _⟩ => by omega, fun _ => rfl⟩
  | f + 1, i, ks => by
    obtain ⟨ih1, ih2⟩ := getK_cmI ws n k f (i + 1) (aput (wat ws i).1 n ks)
    rw [cmI]
    constructor
    · rintro ⟨j, h1, h2, h3⟩
      by_cases hex : ∃ j, i + 1 ≤ j ∧ j < i + 1 + f ∧ (wat ws j).1 = k
      · exact ih1 hex
      · have hj : j = i := by
          by_cases hj : j = i
          · exact hj
          · exact absurd ⟨j, by omega, by omega, h3⟩ hex
        subst hj
        rw [ih2 fun j' h1' h2' h3' => hex ⟨j', h1', h2', h3'⟩, getK_aput, if_pos h3.symm]
    · intro h
      rw [ih2 fun j h1 h2 => h j (by omega) (by omega), getK_aput, if_neg fun e => h i (Nat.le_refl _) (by omega) e.symm]

theorem wrI_iff (ks : List (List UInt8 × Int)) (ws : List Wt) (s : Int) : ∀ n i : Nat, wrI ks ws s n i = true ↔ ∃ j, i ≤ j ∧ j < i + n ∧ s < getK ks (wat ws j).1
  | 0, i => by
    constructor
    · intro h; cases h
    · rintro ⟨j, h1, h2, _⟩; omega
  | n + 1, i => by
    rw [wrI]
    by_cases h : s < getK ks (wat ws i).1
    · rw [if_pos (by simpa using h)]
      exact ⟨fun _ => ⟨i, Nat.le_refl _, by omega, h⟩, fun _ => rfl⟩
    · rw [if_neg (by simpa using h), wrI_iff ks ws s n (i + 1)]
      constructor
      · rintro ⟨j, h1, h2, h3⟩; exact ⟨j, by omega, by omega, h3⟩
      · rintro ⟨j, h1, h2, h3⟩
        refine ⟨j, ?_, by omega, h3⟩
        by_cases he : j = i
        · subst he; exact absurd h3 h
        · omega

/-- what was committed, and what the judge knows of it -/
structure WinI (done : List Bt) (J : Jd) : Prop where
  last : J.last = done.length
  small : ∀ t, t < done.length → (bat done t).ws.length ≤ 10
  up : ∀ t, t < done.length → ∀ i, i < (bat done t).ws.length → (t : Int) + 1 ≤ getK J.ks (wat (bat done t).ws i).1
  seen : ∀ k, getK J.ks k = 0 ∨ ∃ t i, t < done.length ∧ i < (bat done t).ws.length ∧ (wat (bat done t).ws i).1 = k ∧ getK J.ks k = t + 1

theorem win_zero : WinI [] ⟨0, [], []⟩ := ⟨rfl, fun _ h => by simp at h, fun _ h => by simp at h, fun _ => .inl rfl⟩

theorem wr_meets {done : List Bt} {J : Jd} (h : WinI done J) (s : Int) (ws : List Wt) (hs : 0 ≤ s) : wrI J.ks ws s ws.length 0 = true ↔ ∃ t : Nat, s ≤ t ∧ t < done.length ∧ meets (bat done t).ws ws = true := by
  rw [wrI_iff]
  constructor
  · rintro ⟨j, _, h2, h3⟩
    rcases h.seen (wat ws j).1 with h0 | ⟨t, i, ht, hi, he, hk⟩
    · omega
    · exact ⟨t, by omega, ht, meets_at hi (by omega) he⟩
  · rintro ⟨t, h1, h2, h3⟩
    unfold meets at h3
    rw [List.any_eq_true] at h3
    obtain ⟨x, hx, h3⟩ := h3
    rw [List.any_eq_true] at h3
    obtain ⟨y, hy, he⟩ := h3
    obtain ⟨i, hi, rfl⟩ := wat_mem hx
    obtain ⟨k, hk, rfl⟩ := wat_mem hy
    refine ⟨k, Nat.zero_le _, by omega, ?_⟩
    have := h.up t h2 i hi
    rw [eq_of_beq he] at this
    omega

theorem bat_left {done : List Bt} {b : Bt} {t : Nat} (h : t < done.length) : bat (done ++ [b]) t = bat done t := by
  rw [bat, bat, List.getD_eq_getElem?_getD, List.getD_eq_getElem?_getD, List.getElem?_append_left h]
theorem bat_last {done : List Bt} {b : Bt} : bat (done ++ [b]) done.length = b := by
  rw [bat, List.getD_eq_getElem?_getD, List.getElem?_append_right (Nat.le_refl _)]; simp

theorem win_commit {done : List Bt} {J : Jd} (h : WinI done J) (b : Bt) (hb : b.ws.length ≤ 10) (ts : List (Int × Int × Int × Int)) : WinI (done ++ [b]) ⟨J.last + 1, cmI b.ws (J.last + 1) b.ws.length 0 J.ks, ts⟩ := by
  have hl := h.last
  refine ⟨by simp [hl], fun t ht => ?_, fun t ht i hi => ?_, fun k => ?_⟩
  · rw [List.length_append, List.length_singleton] at ht
    by_cases he : t < done.length
    · rw [bat_left he]; exact h.small t he
    · have : t = done.length := by omega
      subst this
      rw [bat_last]; exact hb
  · rw [List.length_append, List.length_singleton] at ht
    simp only
    by_cases hex : ∃ j, 0 ≤ j ∧ j < 0 + b.ws.length ∧ (wat b.ws j).1 = (wat (bat (done ++ [b]) t).ws i).1
    · rw [(getK_cmI _ _ _ _ _ _).1 hex]; omega
    · rw [(getK_cmI _ _ _ _ _ _).2 fun j h1 h2 h3 => hex ⟨j, h1, h2, h3⟩]
      by_cases he : t < done.length
      · rw [bat_left he] at hi ⊢; exact h.up t he i hi
      · have : t = done.length := by omega
        subst this
        rw [bat_last] at hi hex
        exact absurd ⟨i, Nat.zero_le _, by omega, rfl⟩ hex
  · simp only
    by_cases hex : ∃ j, 0 ≤ j ∧ j < 0 + b.ws.length ∧ (wat b.ws j).1 = k
    · rw [(getK_cmI _ _ _ _ _ _).1 hex]
      obtain ⟨j, _, h2, h3⟩ := hex
      exact .inr ⟨done.length, j, by simp, by rw [bat_last]; omega, by rw [bat_last]; exact h3, by omega⟩
    · rw [(getK_cmI _ _ _ _ _ _).2 fun j h1 h2 h3 => hex ⟨j, h1, h2, h3⟩]
      rcases h.seen k with h0 | ⟨t, i, ht, hi, he, hk⟩
      · exact .inl h0
      · exact .inr ⟨t, i, by simp; omega, by rw [bat_left ht]; exact hi, by rw [bat_left ht]; exact he, hk⟩

theorem chkI_what (ws : List Wt) : ∀ n i, chkI ws n i = 0 ∨ (50 ≤ chkI ws n i ∧ chkI ws n i ≤ 54)
  | 0, _ => .inl rfl
  | n + 1, i => by
    unfold chkI
    split
    · rename_i h
      unfold writeErr at h ⊢
      split
      · right; omega
      · rename_i h1
        rw [if_neg h1] at h
        split
        · right; omega
        · rename_i h2
          rw [if_neg h2] at h; simp at h
    · split
      · right; omega
      · exact chkI_what ws n (i + 1)
theorem chk_what (ws : List Wt) : chk ws = 0 ∨ (50 ≤ chk ws ∧ chk ws ≤ 54) := by
  unfold chk
  split
  · right; omega
  · split
    · right; omega
    · exact chkI_what _ _ _

theorem win_say {done : List Bt} {J : Jd} (h : WinI done J) (cl r s : Int) (ws : List Wt) (hs : 0 ≤ s) (hw : ws.length ≤ 10) :
    ((sayS J cl r s ws).2.last = J.last ∧ WinI done (sayS J cl r s ws).2 ∧
      ((inT J.ts cl = true ∧ (getT J.ts cl).1 = r ∧ (sayS J cl r s ws).1 = (getT J.ts cl).2) ∨
       ((sayS J cl r s ws).1.2 ≠ 0 ∧ ((sayS J cl r s ws).1.2 = 191 → s ≤ J.last ∧ ∃ t : Nat, s ≤ t ∧ t < done.length ∧ meets (bat done t).ws ws = true)))) ∨
    ((sayS J cl r s ws).1 = (J.last + 1, 0) ∧ (sayS J cl r s ws).2.last = J.last + 1 ∧ s ≤ J.last ∧ (inT J.ts cl = true → (getT J.ts cl).1 < r) ∧
      (∀ t : Nat, s ≤ t → t < done.length → meets (bat done t).ws ws = false) ∧ WinI (done ++ [⟨cl, r, s, ws⟩]) (sayS J cl r s ws).2) := by
  unfold sayS
  split
  · rename_i h1
    refine .inl ⟨rfl, h, .inr ⟨by simpa using h1, fun e => ?_⟩⟩
    have := chk_what ws
    simp only at e
    omega
  · split
    · rename_i h2
      simp only [Bool.and_eq_true, beq_iff_eq] at h2
      exact .inl ⟨rfl, h, .inl ⟨h2.1, h2.2, rfl⟩⟩
    · rename_i h2
      split
      · exact .inl ⟨rfl, h, .inr ⟨by simp, fun e => by simp at e⟩⟩
      · rename_i h3
        split
        · exact .inl ⟨rfl, h, .inr ⟨by simp, fun e => by simp at e⟩⟩
        · rename_i h4
          have h4' : s ≤ J.last := by simpa using h4
          split
          · exact .inl ⟨rfl, h, .inr ⟨by simp, fun e => by simp at e⟩⟩
          · split
            · rename_i h6
              exact .inl ⟨rfl, ⟨h.last, h.small, h.up, h.seen⟩, .inr ⟨by simp, fun _ => ⟨h4', (wr_meets h s ws hs).1 h6⟩⟩⟩
            · rename_i h6
              refine .inr ⟨rfl, rfl, h4', fun hin => ?_, fun t h1 h2 => ?_, win_commit h ⟨cl, r, s, ws⟩ hw _⟩
              · simp [hin] at h2 h3; omega
              · cases hm : meets (bat done t).ws ws with
                | false => rfl
                | true => exact absurd ((wr_meets h s ws hs).2 ⟨t, h1, h2, hm⟩) h6
end Go.Proofs.Ytiipndbcddgjlaa
