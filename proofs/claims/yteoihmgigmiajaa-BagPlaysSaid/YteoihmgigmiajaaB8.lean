import Derived.Test.YteoihmgigmiajaaB6
import Derived.Test.YteoihmgigmiajaaNm22
import Derived.Test.YteoihmgigmiajaaRows
import Derived.WalkKit
import Derived.ProofKit
import Derived.OpenShut
import Derived.ShutString
import Derived.ChangeOld
import Derived.Below
set_option linter.all false
set_option linter.unusedSimpArgs false
set_option linter.unusedVariables false
namespace Go.Proofs.Yteoihmgigmiajaa
open Go.Nm Go.ChangeShapes Go.WideShapes Go.ChangeAt Go.RowKit

theorem own : ownKnob Try.prog.godebug = none := by kernel_rfl
theorem laidOut : laidOutB Try.prog = true := by kernel_rfl
theorem ret_true : ∀ Φ v, VP Φ (.b true) v → v = .bool true := by
  intro Φ v h
  cases h; rfl

instance : Inhabited Ac := ⟨⟨0, 0, 0, 0, []⟩⟩

section
variable {H : Type} {enc : TypeId × Value → H} {w : World} {base : Nat} {spare : Nat → Bool} {held : Bool}

theorem opens_packet : Opens enc Try.prog w base spare held 33 prow fun _ => True :=
  (opens_struct (t := 33) (n := 3) Try.underlying33 (by kernel_rfl) (fun _ => rfl)
    (opensF_cons (n := 1) rfl (by kernel_rfl) (fun _ => rfl) (opens_int (k := .i64) (by kernel_rfl))
      (opensF_cons (n := 1) rfl (by kernel_rfl) (fun _ => rfl) (opens_int (k := .i64) (by kernel_rfl))
        (opensF_one (n := 1) rfl (by kernel_rfl) (fun _ => rfl) (opens_string (by kernel_rfl)))))).map (fun x => x) (fun _ => rfl) (fun _ _ => trivial)

theorem opens_packets : Opens enc Try.prog w base spare held 29 (fun xs : List Pk => [.fz (xs.map prow) none]) fun xs => (∀ x ∈ xs, True) ∧ xs.length ≤ maxLen :=
  opens_slice (e := 33) (sz := 3) (by kernel_rfl) (by kernel_rfl) opens_packet

theorem opens_act : Opens enc Try.prog w base spare held 31 arow fun _ => True :=
  (opens_struct (t := 31) (n := 5) Try.underlying31 (by kernel_rfl) (fun _ => rfl)
    (opensF_cons (n := 1) rfl (by kernel_rfl) (fun _ => rfl) (opens_int (k := .i64) (by kernel_rfl))
      (opensF_cons (n := 1) rfl (by kernel_rfl) (fun _ => rfl) (opens_int (k := .i64) (by kernel_rfl))
        (opensF_cons (n := 1) rfl (by kernel_rfl) (fun _ => rfl) (opens_int (k := .i64) (by kernel_rfl))
          (opensF_cons (n := 1) rfl (by kernel_rfl) (fun _ => rfl) (opens_int (k := .i64) (by kernel_rfl))
            (opensF_one (n := 1) rfl (by kernel_rfl) (fun _ => rfl) opens_packets)))))).map (fun x => (⟨x.1, x.2.1, x.2.2.1, x.2.2.2.1, x.2.2.2.2⟩ : Ac)) (fun _ => rfl) (fun _ _ => trivial)

theorem opens_acts : Opens enc Try.prog w base spare held 22 (fun xs : List Ac => [.fz (xs.map arow) none]) fun xs => (∀ x ∈ xs, True) ∧ xs.length ≤ maxLen :=
  opens_slice (e := 31) (sz := 5) (by kernel_rfl) (by kernel_rfl) opens_act

theorem opens_bools : Opens enc Try.prog w base spare held 41 (fun xs : List Bool => [.fz (xs.map fun b => [.b b]) none]) fun xs => (∀ x ∈ xs, True) ∧ xs.length ≤ maxLen :=
  opens_slice (e := 4) (sz := 1) (by kernel_rfl) (by kernel_rfl) (opens_bool (by kernel_rfl))
end
end Go.Proofs.Yteoihmgigmiajaa
