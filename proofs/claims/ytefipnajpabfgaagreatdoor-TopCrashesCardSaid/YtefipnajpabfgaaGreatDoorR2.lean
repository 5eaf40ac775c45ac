/- The statement TopCrashes (its tied card) is proved: committed and synced is committed: behind a crash a view has the batches up to some timestamp, from the last synced one on, as they were judged. For all batches, syncs and survivors; no condition beyond those of the given row. -/
import Derived.Test.YtefipnajpabfgaaGreatDoorP24
import Derived.Test.YtefipnajpabfgaaGreatDoorCards
import Derived.Test.YtefipnajpabfgaaGreatDoorTie
import Derived.ChangeMaps5
import Derived.SevenTiedAt
set_option linter.all false
set_option maxRecDepth 40000
set_option maxHeartbeats 16000000
set_option linter.unusedSimpArgs false
set_option linter.unusedVariables false
namespace Go.Proofs.YtefipnajpabfgaaGreatDoor
open Go.Nm Go.ChangeShapes Go.ChangeMaps Go.WideShapes Go.ChangeAt Go.RowKit

theorem crashes_lifted (os : Os) (started : os.Started) (H : Type) (enc : TypeId × Value → H) :
  ReturnsInHanded {} Tryz.checked os 4 .any (fun w args => (Rows.topCrashesSpec.pre enc Tryz.prog Tryz.f4 [] false w args ∧ laidMetH Tryz.prog laid1 w) ∧ sizedMet enc Tryz.prog Tryz.f4 (OpenSpec.ofChange Rows.topCrashesSpec) false w args) (Rows.topCrashesSpec.post enc Tryz.prog Tryz.f4 false true false false) := by
 refine returnsInHanded_of_change_and (C := Tryz.checked) (X := fun w _ => laidMetH Tryz.prog laid1 w) (fun _ _ _ hh h => h.of_heap hh) own started (by kernel_rfl) Tryz.func4
  (ChangeSpec.witness_shaped (enc := enc) (C := Tryz.checked) (os := os) (X := fun w _ => laidMetH Tryz.prog laid1 w) false (World.doorLaid Tryz.prog 400 os) #[.slice none 0 0, .slice none 0 0, .slice none 0 0] 8 rfl (World.shaped_of_RefB (by kernel_rfl) (by kernel_rfl)) (by kernel_rfl) (by kernel_rfl) (by kernel_rfl) (door_met os _)) ?_
 intro W base args ds gs before hval0 hW _ _ hL _
 have hval : ∀ (j : Nat) t v, Tryz.f4.params[j]? = some t → args[j]? = some v → Value.okWide Tryz.prog W .any base t v := hval0
 have hW' := hW
 obtain ⟨p, q, hA0, hV, rfl, hfz, hnd⟩ := hW
 have hA : DataW.TrodAll enc Tryz.prog W 0 (fun _ => true) true Tryz.f4.params.toList args.toList ds p := hA0
 rw [Tryz.params4] at hA hval
 obtain ⟨v0, vs0, d0, ds0, p0, q0, hargs, rfl, rfl, h0, r0⟩ := trodAll_cons hA
 obtain ⟨v1, vs1, d1, ds1, p1, q1, rfl, rfl, rfl, h1, r1⟩ := trodAll_cons r0
 obtain ⟨v2, vs2, d2, ds2, p2, q2, rfl, rfl, rfl, h2, r2⟩ := trodAll_cons r1
 obtain ⟨rfl, rfl, rfl⟩ := trodAll_nil r2
 obtain rfl : args = #[v0, v1, v2] := by cases args; simp_all
 obtain ⟨rfl, rfl⟩ := trodVars_none hV
 obtain ⟨a0, l0, c0, rfl⟩ := okWide_slice Tryz.underlying22 (hval 0 22 v0 rfl rfl)
 have k0 := h0
 have lt0 : ∀ x ∈ p0, x.block < W.heap.size := by obtain ⟨m, hm⟩ := k0; exact DataW.trod_lt m _ _ _ hm
 obtain ⟨xs0, ok0, hx0⟩ := Opens.one (opens_batches (enc := enc)) h0 rfl
 obtain ⟨a1, l1, c1, rfl⟩ := okWide_slice Tryz.underlying57 (hval 1 57 v1 rfl rfl)
 have k1 := h1
 have lt1 : ∀ x ∈ p1, x.block < W.heap.size := by obtain ⟨m, hm⟩ := k1; exact DataW.trod_lt m _ _ _ hm
 obtain ⟨xs1, ok1, hx1⟩ := Opens.one (opens_bools (enc := enc)) h1 rfl
 obtain ⟨a2, l2, c2, rfl⟩ := okWide_slice Tryz.underlying58 (hval 2 58 v2 rfl rfl)
 have k2 := h2
 have lt2 : ∀ x ∈ p2, x.block < W.heap.size := by obtain ⟨m, hm⟩ := k2; exact DataW.trod_lt m _ _ _ hm
 obtain ⟨xs2, ok2, hx2⟩ := Opens.one (opens_lefts (enc := enc)) h2 rfl
 clear hA0 hval0
 refine (calls_top (crashes_ok inv2_ok alive_all xs0 xs1 xs2 none none none (by have := ok0.2; unfold maxLen at this; omega) (by have := ok1.2; unfold maxLen at this; omega) (by have := ok2.2; unfold maxLen at this; omega) ok0.1) [.slice a0 l0 c0, .slice a1 l1 c1, .slice a2 l2 c2] rfl ret_true (fun j x v hx hv => ?_) (bits_of_laid hL)).mono fun e W' ⟨he, bel⟩ => ?_
 ·match j, hx, hv with
  | 0, hx, hv => simp at hx hv; subst hx hv; exact .u _ _ hx0
  | 1, hx, hv => simp at hx hv; subst hx hv; exact .u _ _ hx1
  | 2, hx, hv => simp at hx hv; subst hx hv; exact .u _ _ hx2
 ·subst he
  exact ⟨_, rfl, _, _, _, [], _, [], hW', trodAll_mk1 (shut_bool Tryz.underlying4 _), (trodAll_cons_mk (Below.trod laidOut (by kernel_rfl) (of_decide_eq_true (by kernel_rfl)) k0 bel lt0) (trodAll_cons_mk (Below.trod laidOut (by kernel_rfl) (of_decide_eq_true (by kernel_rfl)) k1 bel lt1) (trodAll_cons_mk (Below.trod laidOut (by kernel_rfl) (of_decide_eq_true (by kernel_rfl)) k2 bel lt2) trodAll_mk0))), rfl, bel.frame _, fun h => by cases h⟩

theorem topCrashes_over : Rows.topCrashesRow.holds Tryz.pinned (OpenSpec.ofChange Rows.topCrashesSpec) :=
 OpenClaim.holds_of_wide 4 Tryz.f4 rfl rfl rfl rfl rfl rfl rfl ⟨rfl, rfl, rfl, rfl, rfl⟩ rfl rfl rfl rfl rfl (by kernel_rfl) Tryz.func4 (by kernel_rfl)
  (of_decide_eq_true (by kernel_rfl)) (by unfold Func.isWrapper; first | (rw [if_pos (by decide +kernel)]; kernel_rfl) | (rw [if_neg (by decide +kernel)]; exact ⟨rfl, rfl⟩))
  (fun os started H enc _ => crashes_lifted os started H enc)

theorem topCrashes_card : Rows.TopCrashesCardSaid :=
 Claim7.holds_tied_plain_at .later [] [.data] true (true, "83b10c3fa598da5bf01b75d6303cf94a6342f872d970305410dc3e056ae4f934") false
  topCrashes_over (fun _ h => by cases h) (by kernel_rfl) (fun _ h => by cases h) topCrashes_row_tie rfl ⟨rfl, rfl⟩ (by kernel_rfl) rfl
  (fun g fn hf hfn => by
   obtain rfl : g = 4 := Option.some.inj ((show Tryz.prog.funcNamed "lapstone/lapstonetop.TopCrashes" = some 4 by kernel_rfl).symm.trans hf) |>.symm
   obtain rfl : fn = Tryz.f4 := (Option.some.inj (Tryz.func4.symm.trans hfn)).symm
   exact ⟨by kernel_rfl, fun j t ht => by
    rw [Tryz.params4] at ht
    match j, ht with
    | 0, ht => simp at ht; subst ht; exact (show Tryz.prog.wantsStandIn 22 = false by kernel_rfl)
    | 1, ht => simp at ht; subst ht; exact (show Tryz.prog.wantsStandIn 57 = false by kernel_rfl)
    | 2, ht => simp at ht; subst ht; exact (show Tryz.prog.wantsStandIn 58 = false by kernel_rfl)
    | j + 3, ht => simp at ht⟩)
  (by kernel_rfl)
theorem topCrashes_proved : Rows.TopCrashesCardSaid := topCrashes_card
#print axioms topCrashes_proved
end Go.Proofs.YtefipnajpabfgaaGreatDoor
