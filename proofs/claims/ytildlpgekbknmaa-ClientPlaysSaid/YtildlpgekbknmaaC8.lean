/- The statement ClientPlays is proved: whatever is begun, asked again and answered, a client is the one of the document. For every id and list of acts; no condition beyond those of the given row. -/
import Derived.Test.YtildlpgekbknmaaC7
import Derived.ChangeMaps5
set_option linter.all false
set_option linter.unusedSimpArgs false
set_option linter.unusedVariables false
namespace Go.Proofs.Ytildlpgekbknmaa
open Go.Nm Go.ChangeShapes Go.ChangeMaps Go.WideShapes Go.ChangeAt Go.RowKit

set_option maxRecDepth 100000 in
theorem plays_lifted (os : Os) (started : os.Started) (H : Type) (enc : TypeId × Value → H) :
    ReturnsInHanded {} Try.checked os 5 .any (Rows.clientPlaysSpec.pre6 enc Try.prog Try.f5 Rows.clientPlaysRow.domain false) (Rows.clientPlaysSpec.post enc Try.prog Try.f5 false true false false) := by
  refine returnsInHanded_of_change (C := Try.checked) own started (by kernel_rfl) Try.func5
    (ChangeSpec.witness6 (enc := enc) (C := Try.checked) false ⟨#[], #[.int .u64 0, .slice none 0 0], []⟩ 8 (by kernel_rfl) (by kernel_rfl) (by kernel_rfl) (by kernel_rfl)) ?_
  intro W base args ds gs before hval0 hW hcnd _
  have hval : ∀ (j : Nat) t v, Try.f5.params[j]? = some t → args[j]? = some v → Value.okWide Try.prog W .any base t v := hval0
  have hW' := hW
  obtain ⟨p, q, hA0, hV, rfl, hfz, hnd⟩ := hW
  have hA : DataW.TrodAll enc Try.prog W 0 (fun _ => true) true Try.f5.params.toList args.toList ds p := hA0
  rw [Try.params5] at hA hval
  obtain ⟨v0, vs0, d0, ds0, p0, q0, hargs, rfl, rfl, h0, r0⟩ := trodAll_cons hA
  obtain ⟨v1, vs1, d1, ds1, p1, q1, rfl, rfl, rfl, h1, r1⟩ := trodAll_cons r0
  obtain ⟨rfl, rfl, rfl⟩ := trodAll_nil r1
  obtain rfl : args = #[v0, v1] := by cases args; simp_all
  obtain ⟨rfl, rfl⟩ := trodVars_none hV
  obtain ⟨n0, rfl, rfl, rfl, wf0⟩ := open_int Try.underlying22 (hval 0 22 v0 rfl rfl) h0
  obtain ⟨a1, l1, c1, rfl⟩ := okWide_slice Try.underlying23 (hval 1 23 v1 rfl rfl)
  have k1 := h1
  have lt1 : ∀ x ∈ p1, x.block < W.heap.size := by obtain ⟨m, hm⟩ := k1; exact DataW.trod_lt m _ _ _ hm
  obtain ⟨xs1, ok1, hx1⟩ := Opens.one (opens_acts (enc := enc)) h1 rfl
  clear hA0 hval0
  refine (calls_top (plays_ok n0 xs1) [.int .u64 n0, .slice a1 l1 c1] rfl ret_true (fun j x v hx hv => ?_)).mono fun e W' ⟨he, bel⟩ => ?_
  · match j, hx, hv with
    | 0, hx, hv => simp at hx hv; subst hx hv; exact .u _ _ (.i _ _)
    | 1, hx, hv => simp at hx hv; subst hx hv; exact .u _ _ hx1
  · subst he
    exact ⟨_, rfl, _, _, _, [], _, [], hW', trodAll_mk1 (shut_bool Try.underlying4 _), (trodAll_cons_mk (shut_int Try.underlying22 wf0) (trodAll_cons_mk (Below.trod laidOut (by kernel_rfl) (of_decide_eq_true (by kernel_rfl)) k1 bel lt1) trodAll_mk0)), rfl, bel.frame _, fun h => by cases h⟩

theorem clientPlays_over : Rows.clientPlaysRow.holds Try.pinned (OpenSpec.ofChange Rows.clientPlaysSpec) :=
  OpenClaim.holds_of_wide 5 Try.f5 rfl rfl rfl rfl rfl rfl rfl ⟨rfl, rfl, rfl, rfl, rfl⟩ rfl rfl rfl rfl rfl (by kernel_rfl) Try.func5 (by kernel_rfl)
    (of_decide_eq_true (by kernel_rfl)) (by unfold Func.isWrapper; first | (rw [if_pos (by decide +kernel)]; kernel_rfl) | (rw [if_neg (by decide +kernel)]; exact ⟨rfl, rfl⟩))
    (fun os started H enc _ => plays_lifted os started H enc)

theorem clientPlays_proved : Rows.ClientPlaysSaid := clientPlays_over
#print axioms clientPlays_proved
end Go.Proofs.Ytildlpgekbknmaa
