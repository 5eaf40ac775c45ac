/- The statement ClientOnce is proved: requests are numbered without a gap, and each is answered once at most. For every id and list of acts; no condition beyond those of the given row. -/
import Derived.Test.YtildlpgekbknmaaC11
import Derived.Test.YtildlpgekbknmaaC7
import Derived.Test.YtildlpgekbknmaaNm29
import Derived.ChangeMaps5
set_option linter.all false
set_option linter.unusedSimpArgs false
set_option linter.unusedVariables false
namespace Go.Proofs.Ytildlpgekbknmaa
open Go.Nm Go.ChangeShapes Go.ChangeMaps Go.WideShapes Go.ChangeAt Go.RowKit

section
variable {H : Type} {enc : TypeId × Value → H} {w : World} {base : Nat} {spare : Nat → Bool} {held : Bool}
theorem opensZ_act : OpensZ enc Try.prog w base spare held 33 arow fun x => roomy x.ws :=
  (opensZ_struct (t := 33) (n := 6) Try.underlying33 (by kernel_rfl) (fun _ => rfl)
    (opensFZ_cons (n := 1) rfl (by kernel_rfl) (fun _ => rfl) (opens_int (k := .i64) (by kernel_rfl)).z
      (opensFZ_cons (n := 1) rfl (by kernel_rfl) (fun _ => rfl) (opens_int (k := .u64) (by kernel_rfl)).z
        (opensFZ_cons (n := 1) rfl (by kernel_rfl) (fun _ => rfl) (opens_int (k := .u64) (by kernel_rfl)).z
          (opensFZ_cons (n := 1) rfl (by kernel_rfl) (fun _ => rfl) (opensZ_slice (e := 61) (sz := 3) (by kernel_rfl) (by kernel_rfl) opens_write.z)
            (opensFZ_one (n := 2) rfl (by kernel_rfl) (fun _ => rfl) opens_verdict.z)))))).map (fun x => (⟨x.1, x.2.1, x.2.2.1, x.2.2.2.1, x.2.2.2.2.1, x.2.2.2.2.2⟩ : Ac)) (fun _ => rfl) (fun x h => by
      have h1 := h.2.2.2.1.2.1
      have h2 := h.2.2.2.1.2.2
      rw [show Try.prog.bytesOf 61 = 40 by kernel_rfl] at h2
      unfold maxLen at h1
      unfold reachBytes at h2
      exact ⟨by simp only; omega, by simp only; omega⟩)
theorem opensZ_acts : OpensZ enc Try.prog w base spare held 23 (fun xs : List Ac => [.fz (xs.map arow) none]) fun xs => (∀ x ∈ xs, roomy x.ws) ∧ xs.length ≤ maxLen ∧ xs.length * Try.prog.bytesOf 33 ≤ reachBytes :=
  opensZ_slice (e := 33) (sz := 6) (by kernel_rfl) (by kernel_rfl) opensZ_act
end

set_option maxRecDepth 100000 in
theorem once_lifted (os : Os) (started : os.Started) (H : Type) (enc : TypeId × Value → H) :
    ReturnsInHanded {} Try.checked os 3 .any (Rows.clientOnceSpec.pre6 enc Try.prog Try.f3 Rows.clientOnceRow.domain false) (Rows.clientOnceSpec.post enc Try.prog Try.f3 false true false false) := by
  refine returnsInHanded_of_change_sized (C := Try.checked) own started (by kernel_rfl) Try.func3
    (ChangeSpec.witness6 (enc := enc) (C := Try.checked) false ⟨#[], #[.int .u64 0, .slice none 0 0], []⟩ 8 (by kernel_rfl) (by kernel_rfl) (by kernel_rfl) (by kernel_rfl)) ?_
  intro W base args ds gs before hval0 hW hcnd hz _
  have hzz : ∀ (j : Nat) t d, Try.f3.params.toList[j]? = some t → ds[j]? = some d → ∀ n ∈ d.weights Try.prog t, n ≤ reachBytes := by
    intro j t d h1 h2 n hn
    have k1 := (List.getElem?_eq_some_iff.1 h1).1
    have k2 := (List.getElem?_eq_some_iff.1 h2).1
    have := List.all_eq_true.1 hz n (DataW.weights_mem_each (j := j) (by rw [List.getElem?_append_left k1]; exact h1) (by rw [List.getElem?_append_left k2]; exact h2) n hn)
    simpa using this
  have hval : ∀ (j : Nat) t v, Try.f3.params[j]? = some t → args[j]? = some v → Value.okWide Try.prog W .any base t v := hval0
  have hW' := hW
  obtain ⟨p, q, hA0, hV, rfl, hfz, hnd⟩ := hW
  have hA : DataW.TrodAll enc Try.prog W 0 (fun _ => true) true Try.f3.params.toList args.toList ds p := hA0
  rw [Try.params3] at hA hval hzz
  obtain ⟨v0, vs0, d0, ds0, p0, q0, hargs, rfl, rfl, h0, r0⟩ := trodAll_cons hA
  obtain ⟨v1, vs1, d1, ds1, p1, q1, rfl, rfl, rfl, h1, r1⟩ := trodAll_cons r0
  obtain ⟨rfl, rfl, rfl⟩ := trodAll_nil r1
  obtain rfl : args = #[v0, v1] := by cases args; simp_all
  obtain ⟨rfl, rfl⟩ := trodVars_none hV
  obtain ⟨n0, rfl, rfl, rfl, wf0⟩ := open_int Try.underlying22 (hval 0 22 v0 rfl rfl) h0
  obtain ⟨a1, l1, c1, rfl⟩ := okWide_slice Try.underlying23 (hval 1 23 v1 rfl rfl)
  have k1 := h1
  have lt1 : ∀ x ∈ p1, x.block < W.heap.size := by obtain ⟨m, hm⟩ := k1; exact DataW.trod_lt m _ _ _ hm
  obtain ⟨xs1, ok1, hx1⟩ := OpensZ.one (opensZ_acts (enc := enc)) h1 (hzz 1 23 _ rfl rfl) rfl
  clear hA0 hval0
  refine (calls_top (once_ok n0 xs1 (fun x hx => ok1.1 x hx)) [.int .u64 n0, .slice a1 l1 c1] rfl ret_true (fun j x v hx hv => ?_)).mono fun e W' ⟨he, bel⟩ => ?_
  · match j, hx, hv with
    | 0, hx, hv => simp at hx hv; subst hx hv; exact .u _ _ (.i _ _)
    | 1, hx, hv => simp at hx hv; subst hx hv; exact .u _ _ hx1
  · subst he
    exact ⟨_, rfl, _, _, _, [], _, [], hW', trodAll_mk1 (shut_bool Try.underlying4 _), (trodAll_cons_mk (shut_int Try.underlying22 wf0) (trodAll_cons_mk (Below.trod laidOut (by kernel_rfl) (of_decide_eq_true (by kernel_rfl)) k1 bel lt1) trodAll_mk0)), rfl, bel.frame _, fun h => by cases h⟩

theorem clientOnce_over : Rows.clientOnceRow.holds Try.pinned (OpenSpec.ofChange Rows.clientOnceSpec) :=
  OpenClaim.holds_of_wide 3 Try.f3 rfl rfl rfl rfl rfl rfl rfl ⟨rfl, rfl, rfl, rfl, rfl⟩ rfl rfl rfl rfl rfl (by kernel_rfl) Try.func3 (by kernel_rfl)
    (of_decide_eq_true (by kernel_rfl)) (by unfold Func.isWrapper; first | (rw [if_pos (by decide +kernel)]; kernel_rfl) | (rw [if_neg (by decide +kernel)]; exact ⟨rfl, rfl⟩))
    (fun os started H enc _ => once_lifted os started H enc)

theorem clientOnce_proved : Rows.ClientOnceSaid := clientOnce_over
#print axioms clientOnce_proved
end Go.Proofs.Ytildlpgekbknmaa
