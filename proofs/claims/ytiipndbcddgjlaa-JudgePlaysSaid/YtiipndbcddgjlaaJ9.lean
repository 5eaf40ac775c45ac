import Derived.Test.YtiipndbcddgjlaaJ8
import Derived.Test.YtiipndbcddgjlaaNm22
import Derived.Test.YtiipndbcddgjlaaRows
import Derived.WalkKit
import Derived.ProofKit
import Derived.OpenShut
import Derived.ShutString
import Derived.ChangeOld
import Derived.Below
set_option linter.all false
set_option linter.unusedSimpArgs false
set_option linter.unusedVariables false
namespace Go.Proofs.Ytiipndbcddgjlaa
open Go.Nm Go.ChangeShapes Go.WideShapes Go.ChangeAt Go.RowKit

theorem own : ownKnob Try.prog.godebug = none := by kernel_rfl
theorem laidOut : laidOutB Try.prog = true := by kernel_rfl

instance : Inhabited Bt := ⟨⟨0, 0, 0, []⟩⟩
def wf64 (n : Int) : Prop := (Lit.int .u64 n).wf = true

section
variable {H : Type} {enc : TypeId × Value → H} {w : World} {base : Nat} {spare : Nat → Bool} {held : Bool}

theorem opens_write : Opens enc Try.prog w base spare held 40 wrow fun x => x.1.length ≤ maxLen ∧ x.2.1.length ≤ maxLen :=
  (opens_struct (t := 40) (n := 3) Try.underlying40 (by kernel_rfl) (fun _ => rfl)
    (opensF_cons (n := 1) rfl (by kernel_rfl) (fun _ => rfl) (opens_string (by kernel_rfl))
      (opensF_cons (n := 1) rfl (by kernel_rfl) (fun _ => rfl) (opens_string (by kernel_rfl))
        (opensF_one (n := 1) rfl (by kernel_rfl) (fun _ => rfl) (opens_bool (by kernel_rfl)))))).map (fun x => x) (fun _ => rfl) (fun _ h => ⟨h.1, h.2.1⟩)

def btOK (b : Bt) : Prop := wf64 b.c ∧ wf64 b.r ∧ wf64 b.s ∧ b.ws.length ≤ maxLen

theorem opens_batch : Opens enc Try.prog w base spare held 29 brow btOK :=
  (opens_struct (t := 29) (n := 4) Try.underlying29 (by kernel_rfl) (fun _ => rfl)
    (opensF_cons (n := 1) rfl (by kernel_rfl) (fun _ => rfl) (opens_int (k := .u64) (by kernel_rfl))
      (opensF_cons (n := 1) rfl (by kernel_rfl) (fun _ => rfl) (opens_int (k := .u64) (by kernel_rfl))
        (opensF_cons (n := 1) rfl (by kernel_rfl) (fun _ => rfl) (opens_int (k := .u64) (by kernel_rfl))
          (opensF_one (n := 1) rfl (by kernel_rfl) (fun _ => rfl) (opens_slice (e := 40) (sz := 3) (by kernel_rfl) (by kernel_rfl) opens_write)))))).map (fun x => (⟨x.1, x.2.1, x.2.2.1, x.2.2.2⟩ : Bt)) (fun _ => rfl) (fun _ h => ⟨h.1, h.2.1, h.2.2.1, h.2.2.2.2⟩)

theorem opens_batches : Opens enc Try.prog w base spare held 22 (fun xs : List Bt => [.fz (xs.map brow) none]) fun xs => (∀ x ∈ xs, btOK x) ∧ xs.length ≤ maxLen :=
  opens_slice (e := 29) (sz := 4) (by kernel_rfl) (by kernel_rfl) opens_batch
end
end Go.Proofs.Ytiipndbcddgjlaa
