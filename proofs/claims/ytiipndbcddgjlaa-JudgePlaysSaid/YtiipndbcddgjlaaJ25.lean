/- The statement JudgePlays is proved: whatever batches are brought or loaded, what becomes of each is what the document says. For every list of batches; no condition beyond those of the given row. -/
import Derived.Test.YtiipndbcddgjlaaJ24
import Derived.Test.YtiipndbcddgjlaaJ10
import Derived.ChangeMaps5
set_option linter.all false
set_option linter.unusedSimpArgs false
set_option linter.unusedVariables false
namespace Go.Proofs.Ytiipndbcddgjlaa
open Go.Nm Go.ChangeShapes Go.ChangeMaps Go.WideShapes Go.ChangeAt Go.RowKit

instance : Inhabited Ac := ⟨⟨false, ⟨0, 0, 0, []⟩⟩⟩
section
variable {H : Type} {enc : TypeId × Value → H} {w : World} {base : Nat} {spare : Nat → Bool} {held : Bool}
theorem opens_act : Opens enc Try.prog w base spare held 54 arow fun _ => True :=
  (opens_struct (t := 54) (n := 5) Try.underlying54 (by kernel_rfl) (fun _ => rfl)
    (opensF_cons (n := 1) rfl (by kernel_rfl) (fun _ => rfl) (opens_bool (by kernel_rfl))
      (opensF_one (n := 4) rfl (by kernel_rfl) (fun _ => rfl) opens_batch))).map (fun x => (⟨x.1, x.2⟩ : Ac)) (fun _ => rfl) (fun _ _ => trivial)
theorem opens_acts : Opens enc Try.prog w base spare held 48 (fun xs : List Ac => [.fz (xs.map arow) none]) fun xs => (∀ x ∈ xs, True) ∧ xs.length ≤ maxLen :=
  opens_slice (e := 54) (sz := 5) (by kernel_rfl) (by kernel_rfl) opens_act
end

set_option maxRecDepth 100000 in
theorem plays_lifted (os : Os) (started : os.Started) (H : Type) (enc : TypeId × Value → H) :
    ReturnsInHanded {} Try.checked os 7 .any (Rows.judgePlaysSpec.pre6 enc Try.prog Try.f7 Rows.judgePlaysRow.domain false) (Rows.judgePlaysSpec.post enc Try.prog Try.f7 false true false false) := by
  refine returnsInHanded_of_change (C := Try.checked) own started (by kernel_rfl) Try.func7
    (ChangeSpec.witness6 (enc := enc) (C := Try.checked) false ⟨#[], #[.int .u64 0, .slice none 0 0, .string ⟨#[]⟩], []⟩ 8 (by kernel_rfl) (by kernel_rfl) (by kernel_rfl) (by kernel_rfl)) ?_
  intro W base args ds gs before hval0 hW hcnd _
  have hval : ∀ (j : Nat) t v, Try.f7.params[j]? = some t → args[j]? = some v → Value.okWide Try.prog W .any base t v := hval0
  have hW' := hW
  obtain ⟨p, q, hA0, hV, rfl, hfz, hnd⟩ := hW
  have hA : DataW.TrodAll enc Try.prog W 0 (fun _ => true) true Try.f7.params.toList args.toList ds p := hA0
  rw [Try.params7] at hA hval
  obtain ⟨v0, vs0, d0, ds0, p0, q0, hargs, rfl, rfl, h0, r0⟩ := trodAll_cons hA
  obtain ⟨v1, vs1, d1, ds1, p1, q1, rfl, rfl, rfl, h1, r1⟩ := trodAll_cons r0
  obtain ⟨v2, vs2, d2, ds2, p2, q2, rfl, rfl, rfl, h2, r2⟩ := trodAll_cons r1
  obtain ⟨rfl, rfl, rfl⟩ := trodAll_nil r2
  obtain rfl : args = #[v0, v1, v2] := by cases args; simp_all
  obtain ⟨rfl, rfl⟩ := trodVars_none hV
  obtain ⟨n0, rfl, rfl, rfl, wf0⟩ := open_int Try.underlying25 (hval 0 25 v0 rfl rfl) h0
  obtain ⟨a1, l1, c1, rfl⟩ := okWide_slice Try.underlying48 (hval 1 48 v1 rfl rfl)
  have k1 := h1
  have lt1 : ∀ x ∈ p1, x.block < W.heap.size := by obtain ⟨m, hm⟩ := k1; exact DataW.trod_lt m _ _ _ hm
  obtain ⟨xs1, ok1, hx1⟩ := Opens.one (opens_acts (enc := enc)) h1 rfl
  obtain ⟨s2, rfl, rfl, rfl, wf2⟩ := open_string Try.underlying9 (hval 2 9 v2 rfl rfl) h2
  have hs2 : Value.string s2 = .string ⟨s2.data.toList.toArray⟩ := by simp
  clear hA0 hval0
  refine (calls_top (plays_ok n0 (by have : IntKind.u64.min ≤ n0 ∧ n0 ≤ IntKind.u64.max := (by simpa [Lit.wf] using wf0); have e1 : IntKind.u64.min = 0 := (by decide); omega) xs1 s2.data.toList) [.int .u64 n0, .slice a1 l1 c1, .string s2] rfl ret_true (fun j x v hx hv => ?_)).mono fun e W' ⟨he, bel⟩ => ?_
  · match j, hx, hv with
    | 0, hx, hv => simp at hx hv; subst hx hv; exact .u _ _ (.i _ _)
    | 1, hx, hv => simp at hx hv; subst hx hv; exact .u _ _ hx1
    | 2, hx, hv => simp at hx hv; subst hx hv; rw [hs2]; exact .u _ _ (.s _)
  · subst he
    exact ⟨_, rfl, _, _, _, [], _, [], hW', trodAll_mk1 (shut_bool Try.underlying4 _), (trodAll_cons_mk (shut_int Try.underlying25 wf0) (trodAll_cons_mk (Below.trod laidOut (by kernel_rfl) (of_decide_eq_true (by kernel_rfl)) k1 bel lt1) (trodAll_cons_mk (shut_string Try.underlying9 wf2) trodAll_mk0))), rfl, bel.frame _, fun h => by cases h⟩

theorem judgePlays_over : Rows.judgePlaysRow.holds Try.pinned (OpenSpec.ofChange Rows.judgePlaysSpec) :=
  OpenClaim.holds_of_wide 7 Try.f7 rfl rfl rfl rfl rfl rfl rfl ⟨rfl, rfl, rfl, rfl, rfl⟩ rfl rfl rfl rfl rfl (by kernel_rfl) Try.func7 (by kernel_rfl)
    (of_decide_eq_true (by kernel_rfl)) (by unfold Func.isWrapper; first | (rw [if_pos (by decide +kernel)]; kernel_rfl) | (rw [if_neg (by decide +kernel)]; exact ⟨rfl, rfl⟩))
    (fun os started H enc _ => plays_lifted os started H enc)

theorem judgePlays_proved : Rows.JudgePlaysSaid := judgePlays_over
#print axioms judgePlays_proved
end Go.Proofs.Ytiipndbcddgjlaa
