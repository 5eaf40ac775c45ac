import Derived.Test.YtildlpgekbknmaaC5
import Derived.Test.YtildlpgekbknmaaNm22
import Derived.Test.YtildlpgekbknmaaRows
import Derived.WalkKit
import Derived.ProofKit
import Derived.OpenShut
import Derived.ShutString
import Derived.ChangeOld
import Derived.Below
set_option linter.all false
set_option linter.unusedSimpArgs false
set_option linter.unusedVariables false
namespace Go.Proofs.Ytildlpgekbknmaa
open Go.Nm Go.ChangeShapes Go.WideShapes Go.ChangeAt Go.RowKit

structure Ac where
  k : Int
  s : Int
  r : Int
  ws : List Wt
  at_ : Int
  e : Int
def arow (x : Ac) : List PV := [.i .i64 x.k, .i .u64 x.s, .i .u64 x.r, .fz (x.ws.map wrow) none, .i .u64 x.at_, .i .i64 x.e]
def acat (l : List Ac) (i : Nat) : Ac := l.getD i ⟨0, 0, 0, [], 0, 0⟩
theorem arow_at {l : List Ac} {i : Nat} (h : i < l.length) : (l.map arow).getD i [] = [.i .i64 (acat l i).k, .i .u64 (acat l i).s, .i .u64 (acat l i).r, .fz ((acat l i).ws.map wrow) none, .i .u64 (acat l i).at_, .i .i64 (acat l i).e] := by
  rw [List.getD_eq_getElem?_getD, List.getElem?_map, List.getElem?_eq_getElem h, acat, List.getD_eq_getElem?_getD, List.getElem?_eq_getElem h]; rfl

theorem roomy10 {ws : List Wt} (h : ws.length ≤ 10) : roomy ws := ⟨by omega, by omega⟩
theorem wrow_len {ws : List Wt} : ∀ y ∈ ws.map wrow, y.length = 3 := (wrow_ok ws).1

theorem own : ownKnob Try.prog.godebug = none := by kernel_rfl
theorem laidOut : laidOutB Try.prog = true := by kernel_rfl
theorem ret_true : ∀ Φ v, VP Φ (.b true) v → v = .bool true := by
  intro Φ v h
  cases h; rfl

instance : Inhabited Ac := ⟨⟨0, 0, 0, [], 0, 0⟩⟩

section
variable {H : Type} {enc : TypeId × Value → H} {w : World} {base : Nat} {spare : Nat → Bool} {held : Bool}

theorem opens_write : Opens enc Try.prog w base spare held 61 wrow fun x => x.1.length ≤ maxLen ∧ x.2.1.length ≤ maxLen :=
  (opens_struct (t := 61) (n := 3) Try.underlying61 (by kernel_rfl) (fun _ => rfl)
    (opensF_cons (n := 1) rfl (by kernel_rfl) (fun _ => rfl) (opens_string (by kernel_rfl))
      (opensF_cons (n := 1) rfl (by kernel_rfl) (fun _ => rfl) (opens_string (by kernel_rfl))
        (opensF_one (n := 1) rfl (by kernel_rfl) (fun _ => rfl) (opens_bool (by kernel_rfl)))))).map (fun x => x) (fun _ => rfl) (fun _ h => ⟨h.1, h.2.1⟩)

theorem opens_verdict : Opens enc Try.prog w base spare held 31 (fun x : Int × Int => [.i .u64 x.1, .i .i64 x.2]) fun _ => True :=
  (opens_struct (t := 31) (n := 2) Try.underlying31 (by kernel_rfl) (fun _ => rfl)
    (opensF_cons (n := 1) rfl (by kernel_rfl) (fun _ => rfl) (opens_int (k := .u64) (by kernel_rfl))
      (opensF_one (n := 1) rfl (by kernel_rfl) (fun _ => rfl) (opens_int (k := .i64) (by kernel_rfl))))).map (fun x => x) (fun _ => rfl) (fun _ _ => trivial)

theorem opens_act : Opens enc Try.prog w base spare held 33 arow fun _ => True :=
  (opens_struct (t := 33) (n := 6) Try.underlying33 (by kernel_rfl) (fun _ => rfl)
    (opensF_cons (n := 1) rfl (by kernel_rfl) (fun _ => rfl) (opens_int (k := .i64) (by kernel_rfl))
      (opensF_cons (n := 1) rfl (by kernel_rfl) (fun _ => rfl) (opens_int (k := .u64) (by kernel_rfl))
        (opensF_cons (n := 1) rfl (by kernel_rfl) (fun _ => rfl) (opens_int (k := .u64) (by kernel_rfl))
          (opensF_cons (n := 1) rfl (by kernel_rfl) (fun _ => rfl) (opens_slice (e := 61) (sz := 3) (by kernel_rfl) (by kernel_rfl) opens_write)
            (opensF_one (n := 2) rfl (by kernel_rfl) (fun _ => rfl) opens_verdict)))))).map (fun x => (⟨x.1, x.2.1, x.2.2.1, x.2.2.2.1, x.2.2.2.2.1, x.2.2.2.2.2⟩ : Ac)) (fun _ => rfl) (fun _ _ => trivial)

theorem opens_acts : Opens enc Try.prog w base spare held 23 (fun xs : List Ac => [.fz (xs.map arow) none]) fun xs => (∀ x ∈ xs, True) ∧ xs.length ≤ maxLen :=
  opens_slice (e := 33) (sz := 6) (by kernel_rfl) (by kernel_rfl) opens_act
end
end Go.Proofs.Ytildlpgekbknmaa
