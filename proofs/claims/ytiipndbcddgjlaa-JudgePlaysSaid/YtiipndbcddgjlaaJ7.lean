import Derived.Test.YtiipndbcddgjlaaJ6
set_option linter.all false
set_option linter.unusedSimpArgs false
set_option linter.unusedVariables false
namespace Go.Proofs.Ytiipndbcddgjlaa
open Go.Nm

/-- a batch -/
structure Bt where
  c : Int
  r : Int
  s : Int
  ws : List Wt
def brow (b : Bt) : List PV := [.i .u64 b.c, .i .u64 b.r, .i .u64 b.s, .fz (b.ws.map wrow) none]
def bat (bs : List Bt) (i : Nat) : Bt := bs.getD i ⟨0, 0, 0, []⟩
theorem brow_at {bs : List Bt} {i : Nat} (h : i < bs.length) : (bs.map brow).getD i [] = [.i .u64 (bat bs i).c, .i .u64 (bat bs i).r, .i .u64 (bat bs i).s, .fz ((bat bs i).ws.map wrow) none] := by
  rw [List.getD_eq_getElem?_getD, List.getElem?_map, List.getElem?_eq_getElem h, bat, List.getD_eq_getElem?_getD, List.getElem?_eq_getElem h]; rfl

theorem chk_one (x y : UInt8) : chk [([x, y], [], false)] = 0 := by
  simp [chk, chkI, writeErr, wat]

def byteAt (i : Nat) : UInt8 := UInt8.ofNat i
theorem key_conv {i : Nat} (h : i < 20) : IntKind.u8.wrap (i : Int) = (i : Int) ∧ bytesOf [[.i .u8 97], [.i .u8 (i : Int)]] = [97, byteAt i] ∧ [[PV.i .u8 97], [PV.i .u8 (i : Int)]] = bs [97, byteAt i] := by
  refine ⟨?_, ?_, ?_⟩
  · simp [IntKind.wrap, IntKind.bits, IntKind.signed]; omega
  · simp [bytesOf, Nm.byteOf, byteAt]
  · simp [bs, byteAt]; omega

theorem aget_none {α β : Type} [BEq α] (k : α) : ∀ l : List (α × β), (∀ e ∈ l, (k == e.1) = false) → aget k l = none
  | [], _ => rfl
  | e :: l, h => by
    unfold aget
    rw [if_neg (by rw [h e (by simp)]; simp)]
    exact aget_none k l fun e' he => h e' (by simp [he])

theorem mem_aput {α β : Type} [BEq α] (k : α) (x : β) : ∀ (l : List (α × β)) e, e ∈ aput k x l → e = (k, x) ∨ e ∈ l
  | [], e, h => by simp [aput] at h; exact .inl h
  | e0 :: l, e, h => by
    unfold aput at h
    split at h
    · rcases List.mem_cons.1 h with h | h
      · exact .inl h
      · exact .inr (by simp [h])
    · rcases List.mem_cons.1 h with h | h
      · exact .inr (by simp [h])
      · rcases mem_aput k x l e h with h | h
        · exact .inl h
        · exact .inr (by simp [h])

/-- what JudgeEnds keeps: the clients and the keys that it used are those of the rounds that are done -/
def EndsI (i : Nat) (J : Jd) : Prop := (∀ e ∈ J.ts, e.1 < (i : Int)) ∧ ∀ e ∈ J.ks, ∃ m, m < i ∧ e.1 = [97, byteAt m]

theorem EndsI.mono {i k : Nat} {J : Jd} (h : EndsI i J) (hk : i ≤ k) : EndsI k J :=
  ⟨fun e he => by have := h.1 e he; omega, fun e he => by obtain ⟨m, h1, h2⟩ := h.2 e he; exact ⟨m, by omega, h2⟩⟩

theorem ends_say {J : Jd} {i n : Nat} {R r : Int} (h : EndsI i J) (hi : i < 20) (hR0 : 0 ≤ R) (hR : R < 5) (hn : (n : Int) ≤ R) (hJ : J.last = 9223372036854775807 - R + n) :
    ∃ J', EndsI (i + 1) J' ∧ if (n : Int) < R then sayS J i r (9223372036854775807 - R) [([97, byteAt i], [], false)] = ((J.last + 1, 0), J') ∧ J'.last = J.last + 1
      else sayS J i r (9223372036854775807 - R) [([97, byteAt i], [], false)] = ((0, 192), J') ∧ J'.last = J.last := by
  have h1 : aget (i : Int) J.ts = none := aget_none _ _ fun e he => by
    have := h.1 e he
    simp; omega
  have h2 : aget [97, byteAt i] J.ks = none := aget_none _ _ fun e he => by
    obtain ⟨m, hm, e2⟩ := h.2 e he
    rw [e2]
    have : byteAt i ≠ byteAt m := fun hc => by
      have := congrArg UInt8.toNat hc
      simp [byteAt] at this; omega
    simp [this]
  have hin : inT J.ts i = false := by simp [inT, h1]
  have hwr : wrI J.ks [([97, byteAt i], [], false)] (9223372036854775807 - R) 1 0 = false := by
    simp only [wrI, wat, List.getD_cons_zero, getK, h2, Option.getD_none]
    rw [if_neg (by simp; omega)]
  have hlt : ¬ J.last < 9223372036854775807 - R := by omega
  unfold sayS
  simp only [chk_one, hin, List.length_cons, List.length_nil, Nat.zero_add, hwr, decide_eq_true_eq, hlt, bne_self_eq_false, Bool.false_eq_true, if_false, Bool.false_and]
  by_cases hc : (n : Int) < R
  · rw [if_neg (by omega)]
    refine ⟨_, ?_, by rw [if_pos hc]; exact ⟨rfl, rfl⟩⟩
    refine ⟨fun e he => ?_, fun e he => ?_⟩
    · rcases mem_aput _ _ _ _ he with rfl | he
      · simp only; omega
      · have := h.1 e he; omega
    · simp only [cmI, wat, List.getD_cons_zero] at he
      rcases mem_aput _ _ _ _ he with rfl | he
      · exact ⟨i, by omega, rfl⟩
      · obtain ⟨m, hm, h3⟩ := h.2 e he
        exact ⟨m, by omega, h3⟩
  · rw [if_pos (by omega)]
    exact ⟨J, h.mono (by omega), by rw [if_neg hc]; exact ⟨rfl, rfl⟩⟩
end Go.Proofs.Ytiipndbcddgjlaa
