/- The evaluator's facts, gathered under one name for the simplifier. -/
import Derived.Test.YteoihmgigmiajaaNm21
import Derived.Attr
set_option linter.all false
set_option linter.unusedSimpArgs false
set_option linter.unusedVariables false
namespace Go.Nm
/-! what comes after an operation stands still until it is reached -/
def gdB (c : Bool) (p q : Prop) : Prop := (c = true → p) ∧ (c = false → q)
theorem gdB_true (p q : Prop) : gdB true p q = p := propext ⟨fun h => h.1 rfl, fun h => ⟨fun _ => h, fun h => by cases h⟩⟩
theorem gdB_false (p q : Prop) : gdB false p q = q := propext ⟨fun h => h.2 rfl, fun h => ⟨fun h => by (cases h), fun _ => h⟩⟩
@[congr] theorem gdB_congr {c c' : Bool} {p q : Prop} (h : c = c') : gdB c p q = gdB c' p q := by rw [h]
def orB (c : Bool) (p q : Prop) : Prop := (c = true ∧ p) ∨ (c = false ∧ q)
theorem orB_true (p q : Prop) : orB true p q = p := propext ⟨fun h => h.elim (fun h => h.2) fun h => by (cases h.1), fun h => .inl ⟨rfl, h⟩⟩
theorem orB_false (p q : Prop) : orB false p q = q := propext ⟨fun h => h.elim (fun h => by (cases h.1)) fun h => h.2, fun h => .inr ⟨rfl, h⟩⟩
@[congr] theorem orB_congr {c c' : Bool} {p q : Prop} (h : c = c') : orB c p q = orB c' p q := by rw [h]

def kOps (P : Program) (sl : Nat → Option Nat) (os : List Oper) (N : Nat) (K : Env → List SObj → Prop) : Env → List SObj → Prop := fun e σ => evOps P sl os e σ N K
theorem kOps_app (P : Program) (sl : Nat → Option Nat) (os : List Oper) (N : Nat) (K : Env → List SObj → Prop) (e : Env) (σ : List SObj) : kOps P sl os N K e σ = evOps P sl os e σ N K := rfl
def kPut (K : Env → List SObj → Prop) (e : Env) (d : Option Nat) : SV → List SObj → Prop := fun r σ => K (e.put d r) σ
theorem kPut_app (K : Env → List SObj → Prop) (e : Env) (d : Option Nat) (r : SV) (σ : List SObj) : kPut K e d r σ = K (e.put d r) σ := rfl

theorem evOps_nil (P : Program) (sl : Nat → Option Nat) (e : Env) (σ : List SObj) (N : Nat) (K : Env → List SObj → Prop) : evOps P sl [] e σ N K = K e σ := rfl
theorem evOps_cons (P : Program) (sl : Nat → Option Nat) (o : Oper) (os : List Oper) (e : Env) (σ : List SObj) (N : Nat) (K : Env → List SObj → Prop) :
    evOps P sl (o :: os) e σ N K = evStep P sl o e σ N (kOps P sl os (if usesN o.op then N + 1 else N) K) := rfl
theorem evStep_eq (P : Program) (sl : Nat → Option Nat) (o : Oper) (e : Env) (σ : List SObj) (N : Nat) (K : Env → List SObj → Prop) : evStep P sl o e σ N K =
  match o.guard with
  | none => match callOf o (opnd e) with
    | some (f, as) => enterable P f = true ∧ CallT P f as σ (kPut K e o.dst)
    | none => match evOp P (fun n => σ.getD n .dead) N o (opnd e) with
      | .bad => False
      | .ok ob rd r wr => (ob ∧ rdOK σ rd) ∧ K (e.put o.dst r) (setAll σ wr)
  | some (j, want) => match sl j with
    | none => False
    | some s => match gdOf (e.get s) s want with
      | none => False
      | some (key, c) => match callOf o (fun x => strip key (opnd e x)) with
        | some (f, as) => gdB c (gdObs key c (opnd e) o.op.operands.toList ∧ enterable P f = true ∧ CallT P f as σ (kPut K e o.dst)) (K (e.put o.dst (.gd key false (zsv P o.type))) σ)
        | none => match evOp P (fun n => σ.getD n .dead) N o (fun x => strip key (opnd e x)) with
          | .bad => c = false ∧ K (e.put o.dst (.gd key false (zsv P o.type))) σ
          | .ok ob rd r [] => (c = true → gdObs key c (opnd e) o.op.operands.toList ∧ ob ∧ rdOK σ rd) ∧ K (e.put o.dst (.gd key c r)) σ
          | .ok ob rd r wr => gdB c (gdObs key c (opnd e) o.op.operands.toList ∧ (ob ∧ rdOK σ rd) ∧ K (e.put o.dst r) (setAll σ wr)) (K (e.put o.dst (.gd key false (zsv P o.type))) σ) := rfl

def kDraw (P : Program) (sl : Nat → Option Nat) (masks : List Nat) (os : List Oper) (j : Nat) (e : Env) (d : Option Nat) (σ : List SObj) (N : Nat) (acc : List (List Nat × List Nat)) (K : Env → List SObj → Prop) : List (Nat × SObj) → SV → List (Nat × SObj) → Prop := fun rd r wr =>
  chkN (masks.getD j 0) 0 acc (rd.map (·.1)) (wr.map (·.1)) = true ∧ evDraw P sl masks os (j + 1) (e.put d r) (setAll σ wr) N (acc ++ [(rd.map (·.1), wr.map (·.1))]) K
theorem kDraw_app (P : Program) (sl : Nat → Option Nat) (masks : List Nat) (os : List Oper) (j : Nat) (e : Env) (d : Option Nat) (σ : List SObj) (N : Nat) (acc : List (List Nat × List Nat)) (K : Env → List SObj → Prop) (rd : List (Nat × SObj)) (r : SV) (wr : List (Nat × SObj)) :
    kDraw P sl masks os j e d σ N acc K rd r wr = (chkN (masks.getD j 0) 0 acc (rd.map (·.1)) (wr.map (·.1)) = true ∧ evDraw P sl masks os (j + 1) (e.put d r) (setAll σ wr) N (acc ++ [(rd.map (·.1), wr.map (·.1))]) K) := rfl
def kGd (K : List (Nat × SObj) → SV → List (Nat × SObj) → Prop) (key : List (Nat × Bool)) (c : Bool) : List (Nat × SObj) → SV → Prop := fun rd r => K rd (.gd key c r) []
theorem kGd_app (K : List (Nat × SObj) → SV → List (Nat × SObj) → Prop) (key : List (Nat × Bool)) (c : Bool) (rd : List (Nat × SObj)) (r : SV) : kGd K key c rd r = K rd (.gd key c r) [] := rfl
theorem evDraw_nil (P : Program) (sl : Nat → Option Nat) (masks : List Nat) (j : Nat) (e : Env) (σ : List SObj) (N : Nat) (acc : List (List Nat × List Nat)) (K : Env → List SObj → Prop) : evDraw P sl masks [] j e σ N acc K = K e σ := rfl
theorem evDraw_cons (P : Program) (sl : Nat → Option Nat) (masks : List Nat) (o : Oper) (os : List Oper) (j : Nat) (e : Env) (σ : List SObj) (N : Nat) (acc : List (List Nat × List Nat)) (K : Env → List SObj → Prop) :
    evDraw P sl masks (o :: os) j e σ N acc K = evDStep P sl o e σ N (kDraw P sl masks os j e o.dst σ (if usesN o.op then N + 1 else N) acc K) := rfl
theorem evDStep_eq (P : Program) (sl : Nat → Option Nat) (o : Oper) (e : Env) (σ : List SObj) (N : Nat) (K : List (Nat × SObj) → SV → List (Nat × SObj) → Prop) : evDStep P sl o e σ N K =
  match o.guard with
  | none => match callOf o (opnd e) with
    | some (f, as) => enterable P f = true ∧ CallE P f as σ K
    | none => match evOp P (fun n => σ.getD n .dead) N o (opnd e) with
      | .bad => False
      | .ok ob rd r wr => (ob ∧ rdOK σ rd) ∧ K rd r wr
  | some (j, want) => match sl j with
    | none => False
    | some s => match gdOf (e.get s) s want with
      | none => False
      | some (key, c) => match callOf o (fun x => strip key (opnd e x)) with
        | some (f, as) => CallG P c f as (gdObs key c (opnd e) o.op.operands.toList) σ (kGd K key c)
        | none => match evOp P (fun n => σ.getD n .dead) N o (fun x => strip key (opnd e x)) with
          | .bad => c = false ∧ K [] (.gd key false (zsv P o.type)) []
          | .ok ob rd r [] => (c = true → gdObs key c (opnd e) o.op.operands.toList ∧ ob ∧ rdOK σ rd) ∧ K rd (.gd key c r) []
          | .ok ob rd r wr => orB c ((gdObs key c (opnd e) o.op.operands.toList ∧ (ob ∧ rdOK σ rd)) ∧ K rd r wr) (K [] .j []) := by
  unfold evDStep orB
  rfl

theorem beq_ft : (false == true) = false := rfl
theorem beq_tf : (true == false) = false := rfl
attribute [go_sem] beq_ft beq_tf
attribute [go_sem] retSV SV.mv mvs subL SObj.mv posOf back
attribute [go_sem ↓] evStep_eq evOp evDraw_nil evDraw_cons evDStep_eq kPut_app kDraw_app kGd_app gdB_true gdB_false orB_true orB_false
attribute [go_sem] zsv callOf opnd cst pv1 Env.get Env.put enterEnv SV.cells List.all_cons List.all_nil SV.one Bool.and_true Bool.true_and and_true true_and rdOK usesN setAll List.length_nil List.replicate List.nil_append
  List.cons_append List.getElem?_cons_zero List.getElem?_cons_succ List.set evFieldAddr Nat.lt_add_one Nat.zero_add Nat.add_zero evLoad evStore rdCells wrCells Nat.zero_lt_one List.length_cons TK.agg
  evBin slotOf List.getElem?_toArray Option.bind_some gdOf strip isSuf sameK gdObs gdOb Op.operands evLen evPick List.getD_cons_zero List.getD_cons_succ List.append_nil Bool.false_eq_true List.take_zero
  List.take_succ_cons List.drop_zero List.drop_succ_cons List.take_nil List.drop_nil List.map_cons List.map_nil beq_iff_eq beq_eq_false_iff_ne Bool.cond_true_left Bool.cond_false_right
  Bool.cond_true_right Bool.cond_false_left imp_self implies_true forall_const Bool.or_eq_false_iff Bool.and_eq_true Call.operands Array.toList_append Array.toList_map List.append_assoc
  List.zip_nil_left List.zip_cons_cons Int.toNat_natCast List.length_map Option.getD_some Option.getD_none decide_eq_true_eq decide_eq_false_iff_not evIndexAddr evIndex evSlice evConvert evMapUpdate
  evLookup evBuild evBuildSlice evNil evField evFunc evAppend evMax evMin evClear srcObs Nat.sub_zero bndSV natSV pvOf pures SV.pure? purEls idxOK fillSV srcOf isNilPV eqCells SV.tupAt keyKind isU8 PV.one isAggSV List.mem_cons
  List.not_mem_nil or_false forall_eq_or_imp forall_eq ne_eq not_false_eq_true zeroPV List.headD_cons Array.toList_empty Option.map_some Option.map_none beq_self_eq_true bne_self_eq_false Bool.not_false Bool.not_true
  Bool.and_self Bool.or_true Bool.or_false Bool.true_or Bool.false_or Bool.and_false Bool.false_and decide_true decide_false true_implies false_implies Bool.true_eq_false eq_self
end Go.Nm
