/- Part 2 of the proof: what functions of the program do, and plain facts on what they compute. -/
import Derived.Test.YtefipnajpabfgaaGreatDoorL1
import Derived.Laws.IdiomStrings
set_option linter.all false
set_option maxRecDepth 40000
set_option maxHeartbeats 16000000
set_option linter.unusedSimpArgs false
set_option linter.unusedVariables false
/- Composite values, comparisons and arithmetic: what they do, by names. -/
namespace Go.Nm

/-! ### build -/
def plOf (P : Program) (t : TypeId) : Option (List (Nat × Nat)) :=
  match P.underlying t with
  | some (.struct fs) => fs.toList.mapM (fun f => (P.info? f.type).map fun i => (f.offset, i.size))
  | some (.array n e) => (P.info? e).map fun ie => (List.range n).map fun i => (i * ie.size, ie.size)
  | _ => none

def fillSV (pl : List (Nat × Nat)) (cs : List SV) : List (Nat × SV) → Option (List SV)
  | [] => some cs
  | (i, x) :: r => match pl[i]? with
    | some (off, size) => if x.cells.length = size ∧ off + size ≤ cs.length ∧ x.cells.all SV.one = true then fillSV pl (wrCells cs off x.cells) r else none
    | none => none

theorem splice_get (off : Nat) : ∀ (u : List Value) (k : Nat) (cells : Array Value) (m : Nat),
    ((u.zipIdx k).foldl (fun (cs : Array Value) (p : Value × Nat) => cs.setIfInBounds (off + p.2) p.1) cells)[m]? =
      if off + k ≤ m ∧ m < off + k + u.length ∧ m < cells.size then u[m - (off + k)]? else cells[m]?
  | [], k, cells, m => by
    rw [if_neg (by simp; omega)]; rfl
  | v :: u, k, cells, m => by
    simp only [List.zipIdx_cons, List.foldl_cons]
    rw [splice_get off u (k + 1) _ m]
    simp only [Array.size_setIfInBounds, List.length_cons, Array.getElem?_setIfInBounds]
    by_cases h1 : off + (k + 1) ≤ m ∧ m < off + (k + 1) + u.length ∧ m < cells.size
    · rw [if_pos h1, if_pos (by omega)]
      rw [show m - (off + k) = (m - (off + (k + 1))) + 1 by omega, List.getElem?_cons_succ]
    · rw [if_neg h1]
      by_cases h2 : off + k = m
      · subst h2
        by_cases h3 : off + k < cells.size
        · rw [if_pos rfl, if_pos h3, if_pos (by omega)]; simp
        · rw [if_pos rfl, if_neg h3, if_neg (by omega)]; exact (Array.getElem?_eq_none (by omega)).symm
      · rw [if_neg h2]
        by_cases h4 : off + k ≤ m ∧ m < off + k + (u.length + 1) ∧ m < cells.size
        · exfalso; omega
        · rw [if_neg h4]

theorem splice_size (off : Nat) : ∀ (u : List Value) (k : Nat) (cells : Array Value), ((u.zipIdx k).foldl (fun (cs : Array Value) (p : Value × Nat) => cs.setIfInBounds (off + p.2) p.1) cells).size = cells.size
  | [], k, cells => rfl
  | v :: u, k, cells => by simp only [List.zipIdx_cons, List.foldl_cons]; rw [splice_size off u (k + 1)]; simp

theorem fill_ok {β : List Value} {Φ : Fz} {pl : List (Nat × Nat)} {place : Nat → Option (Nat × Nat)} (hp : ∀ i q, pl[i]? = some q → place i = some q) :
    ∀ (xs : List (Nat × SV)) (parts : List (Nat × Value)) (cs cs' : List SV) (cells : Array Value), parts.length = xs.length →
      (∀ (j : Nat) x v, xs[j]? = some x → parts[j]? = some v → x.1 = v.1 ∧ V β Φ x.2 v.2) → cells.size = cs.length → (∀ (j : Nat) y u, cs[j]? = some y → cells[j]? = some u → V β Φ y u) →
      fillSV pl cs xs = some cs' → ∃ cells', Instr.fill place cells parts = some cells' ∧ cells'.size = cs'.length ∧ ∀ (j : Nat) y u, cs'[j]? = some y → cells'[j]? = some u → V β Φ y u
  | [], parts, cs, cs', cells, hl, _, hs, hj, h => by
    have : parts = [] := List.eq_nil_of_length_eq_zero (by simpa using hl)
    subst this
    cases h
    exact ⟨cells, rfl, hs, hj⟩
  | (i, x) :: xs, parts, cs, cs', cells, hl, hx, hs, hj, h => by
    obtain ⟨⟨i', v⟩, parts', rfl⟩ : ∃ p r, parts = p :: r := by
      cases parts with
      | nil => simp at hl
      | cons p r => exact ⟨p, r, rfl⟩
    obtain ⟨hii, hv⟩ := hx 0 (i, x) (i', v) rfl rfl
    simp only at hii hv
    subst hii
    unfold fillSV at h
    split at h
    · rename_i off size hpi
      split at h
      · rename_i hc
        obtain ⟨c1, c2, c3⟩ := hc
        obtain ⟨d1, d2, d3⟩ := hv.cells c3
        have hsz : v.cells.size = size := by omega
        have hcond : ¬ ((decide (v.cells.size ≠ size) || decide (off + v.cells.size > cells.size)) = true) := by
          simp only [Bool.or_eq_true, decide_eq_true_eq]; omega
        have hfold : v.cells.zipIdx.foldl (fun (cs : Array Value) (p : Value × Nat) => cs.setIfInBounds (off + p.2) p.1) cells = (v.cells.toList.zipIdx 0).foldl (fun (cs : Array Value) (p : Value × Nat) => cs.setIfInBounds (off + p.2) p.1) cells := by
          rw [← Array.foldl_toList, Array.toList_zipIdx]
        have hfill : Instr.fill place cells ((i, v) :: parts') = Instr.fill place ((v.cells.toList.zipIdx 0).foldl (fun (cs : Array Value) (p : Value × Nat) => cs.setIfInBounds (off + p.2) p.1) cells) parts' := by
          rw [← hfold]
          conv => lhs; unfold Instr.fill
          simp only [hp i (off, size) hpi]
          rw [if_neg hcond]
        rw [hfill]
        refine fill_ok hp xs parts' _ cs' _ (by simpa using hl) (fun j x v h1 h2 => hx (j + 1) x v (by simpa using h1) (by simpa using h2)) (by rw [splice_size, wr_length _ _ _ (by omega)]; exact hs) (fun j y u hy hu => ?_) h
        rw [wr_get _ _ _ (by omega)] at hy
        rw [splice_get] at hu
        by_cases hc' : off ≤ j ∧ j < off + x.cells.length
        · rw [if_pos hc'] at hy
          rw [if_pos (by simp; omega)] at hu
          exact d2 _ y u hy (by simpa using hu)
        · rw [if_neg hc'] at hy
          rw [if_neg (by simp; omega)] at hu
          exact hj j y u hy hu
      · cases h
    · cases h

def evBuild (P : Program) (t : TypeId) (xs : List (Nat × SV)) : Ev :=
  match tiOf P t, plOf P t with
  | some ti, some pl => match fillSV pl (ti.zero.map .u) xs with
    | some cs => .ok True [] (.agg cs) []
    | none => .bad
  | _, _ => .bad

theorem op_build {P : Program} {o : Oper} {g : Operand → SV} {t : TypeId} {parts : Array (Nat × Operand)} (ho : o.op = .build t parts) {ob : Prop} {rd : List (Nat × SObj)} {r : SV} {wr : List (Nat × SObj)}
    (he : evBuild P t (parts.toList.map fun p => (p.1, g p.2)) = .ok ob rd r wr) : OpR P o g rd r wr := by
  unfold evBuild at he
  split at he <;> try cases he
  rename_i ti pl ht hpl
  split at he <;> try cases he
  rename_i cs hf
  refine OpR.pure fun β Φ ρ w hg => ?_
  obtain ⟨it, d, z, h1, h2, h3, h4, h5, _⟩ := tiOf_inv ht
  obtain ⟨hl, hz⟩ := pvs_ok (Φ := Φ) h4
  have hbase : ∀ (j : Nat) y u, (ti.zero.map SV.u)[j]? = some y → z.cells[j]? = some u → V β Φ y u := fun j y u hy hu => by
    rw [List.getElem?_map] at hy
    obtain ⟨q, hq, rfl⟩ := Option.map_eq_some_iff.1 hy
    exact .u _ _ (hz j q u hq (by simpa using hu))
  have hrel : ∀ (j : Nat) x v, (parts.toList.map fun p => (p.1, g p.2))[j]? = some x → ((parts.map fun (i, x) => (i, ρ x)).toList)[j]? = some v → x.1 = v.1 ∧ V β Φ x.2 v.2 := by
    intro j x v hx hv
    rw [List.getElem?_map] at hx
    obtain ⟨p, hp, rfl⟩ := Option.map_eq_some_iff.1 hx
    rw [Array.toList_map, List.getElem?_map, hp] at hv
    cases hv
    exact ⟨rfl, hg _⟩
  have hrun : ∀ cells, P.built t (parts.map fun (i, x) => (i, ρ x)).toList = some cells → (execOp ρ o).run P w = .ok (.value (.agg cells)) w := by
    intro cells hc
    simp only [execOp, ho, Sem.run_bind, run_build w t _ cells hc, Result.andThen_ok, Sem.run_pure]
  have fin : ∀ cells' : Array Value, P.built t (parts.map fun (i, x) => (i, ρ x)).toList = some cells' → cells'.size = cs.length → (∀ (j : Nat) y u, cs[j]? = some y → cells'[j]? = some u → V β Φ y u) →
      ∃ v, (execOp ρ o).run P w = .ok (.value v) w ∧ V β Φ (.agg cs) v := by
    intro cells' hc hs hj
    refine ⟨_, hrun _ hc, ?_⟩
    have := V.agg (Φ := Φ) cs cells'.toList (by simpa using hs) fun j y u hy hu => hj j y u hy (by simpa using hu)
    simpa using this
  unfold plOf at hpl
  split at hpl
  · rename_i F hu
    obtain ⟨cells', e1, e2, e3⟩ := fill_ok (β := β) (Φ := Φ) (pl := pl) (place := (pl.toArray[·]?)) (fun i q hq => by simpa using hq) _ _ _ _ z.cells (by simp) hrel (by simp [hl]) hbase hf
    exact fin cells' (by simp only [Program.built, h1, hu, h3, hpl]; exact e1) e2 e3
  · rename_i n e hu
    obtain ⟨ie, hie, rfl⟩ := Option.map_eq_some_iff.1 hpl
    obtain ⟨cells', e1, e2, e3⟩ := fill_ok (β := β) (Φ := Φ) (place := fun i => some (i * ie.size, ie.size)) (fun i q hq => by
      rw [List.getElem?_map] at hq
      obtain ⟨k, hk, rfl⟩ := Option.map_eq_some_iff.1 hq
      have := (List.getElem?_eq_some_iff.1 hk)
      obtain ⟨hlt, he⟩ := this
      simp at he
      subst he
      rfl) _ _ _ _ z.cells (by simp) hrel (by simp [hl]) hbase hf
    exact fin cells' (by simp only [Program.built, h1, hu, h3, hie]; exact e1) e2 e3
  · cases hpl

/-! ### comparisons, arithmetic -/
def isNilPV : SV → Option Bool
  | .u .np | .u .nm | .u .nfn => some true
  | .p _ _ | .rp _ _ _ _ | .u (.fp _) | .fn _ _ | .u (.fn _ _) => some false
  | _ => none

/-- the kinds of a struct's fields, where its values may be compared cell by cell -/
def eqField (P : Program) (f : Field) : Option TK :=
  match P.underlying f.type, P.info? f.type with
  | some d, some i => if f.name ≠ "_" ∧ i.size = 1 then
      match d with
      | .bool => some .bool
      | .int k => some (.int k)
      | .string => some .str
      | _ => none
    else none
  | _, _ => none
def eqFrom (P : Program) : Nat → List Field → Option (List TK)
  | _, [] => some []
  | k, f :: r => match eqField P f, eqFrom P (k + 1) r with
    | some x, some l => if f.offset = k then some (x :: l) else none
    | _, _ => none
def eqKinds (P : Program) (t : TypeId) : Option (List TK) :=
  match P.underlying t with
  | some (.struct fs) => if P.stoodInHeld t = false ∧ P.eqGuardType P.depth t = false then eqFrom P 0 fs.toList else none
  | _ => none

def eqCells : List TK → List SV → List SV → Option Bool
  | [], [], [] => some true
  | .bool :: ks, .u (.b x) :: r, .u (.b y) :: s => match eqCells ks r s with | some q => some ((x == y) && q) | none => none
  | .int _ :: ks, .u (.i k x) :: r, .u (.i k' y) :: s => match eqCells ks r s with | some q => if k = k' then some ((x == y) && q) else none | none => none
  | .str :: ks, .u (.s x) :: r, .u (.s y) :: s => match eqCells ks r s with | some q => some ((x == y) && q) | none => none
  | _, _, _ => none

def evBin (P : Program) (t : TypeId) (op : BinOp) (x y : SV) : Ev :=
  match x, y with
  | .u (.i k a), .u (.i k' b) =>
    match op with
    | .shl => .ok (0 ≤ b) [] (.u (.i k (k.wrap (a * 2 ^ (min b.toNat k.bits))))) []
    | .shr => .ok (0 ≤ b) [] (.u (.i k (a.fdiv (2 ^ (min b.toNat k.bits))))) []
    | .add => .ok (k = k') [] (.u (.i k (k.wrap (a + b)))) []
    | .sub => .ok (k = k') [] (.u (.i k (k.wrap (a - b)))) []
    | .mul => .ok (k = k') [] (.u (.i k (k.wrap (a * b)))) []
    | .quo => .ok (k = k' ∧ b ≠ 0) [] (.u (.i k (k.wrap (a.tdiv b)))) []
    | .rem => .ok (k = k' ∧ b ≠ 0) [] (.u (.i k (a.tmod b))) []
    | .and => .ok (k = k') [] (.u (.i k (bits .and k a b))) []
    | .or => .ok (k = k') [] (.u (.i k (bits .or k a b))) []
    | .xor => .ok (k = k') [] (.u (.i k (bits .xor k a b))) []
    | .andNot => .bad
    | .eql => .ok (k = k') [] (.u (.b (a == b))) []
    | .neq => .ok (k = k') [] (.u (.b (a != b))) []
    | .lss => .ok (k = k') [] (.u (.b (decide (a < b)))) []
    | .leq => .ok (k = k') [] (.u (.b (decide (a ≤ b)))) []
    | .gtr => .ok (k = k') [] (.u (.b (decide (b < a)))) []
    | .geq => .ok (k = k') [] (.u (.b (decide (b ≤ a)))) []
  | .u (.s a), .u (.s b) =>
    match op with
    | .add => .ok (a.length + b.length ≤ 9223372036854775807) [] (.u (.s (a ++ b))) []
    | .eql => .ok True [] (.u (.b (a == b))) []
    | .neq => .ok True [] (.u (.b (!(a == b)))) []
    | .lss => .ok True [] (.u (.b (Op.bytesLess a b))) []
    | .leq => .ok True [] (.u (.b (Op.bytesLess a b || a == b))) []
    | .gtr => .ok True [] (.u (.b (!(Op.bytesLess a b || a == b)))) []
    | .geq => .ok True [] (.u (.b (!Op.bytesLess a b))) []
    | _ => .bad
  | .u (.b a), .u (.b b) =>
    match op, tiOf P t with
    | .eql, some ti => match ti.kind with | .bool => .ok True [] (.u (.b (a == b))) [] | _ => .bad
    | .neq, some ti => match ti.kind with | .bool => .ok True [] (.u (.b (!(a == b)))) [] | _ => .bad
    | _, _ => .bad
  | x, .u .np =>
    match op, tiOf P t, isNilPV x with
    | .eql, some ti, some b => match ti.kind, x with | .ptr _, .u .np | .ptr _, .p _ _ | .ptr _, .rp _ _ _ _ | .ptr _, .u (.fp _) => .ok True [] (.u (.b b)) [] | _, _ => .bad
    | .neq, some ti, some b => match ti.kind, x with | .ptr _, .u .np | .ptr _, .p _ _ | .ptr _, .rp _ _ _ _ | .ptr _, .u (.fp _) => .ok True [] (.u (.b (!b))) [] | _, _ => .bad
    | _, _, _ => .bad
  | x, y =>
    match op, eqKinds P t with
    | .eql, some ks => match eqCells ks x.cells y.cells with
      | some b => .ok (isAggSV x = true ∧ isAggSV y = true) [] (.u (.b b)) []
      | none => .bad
    | .neq, some ks => match eqCells ks x.cells y.cells with
      | some b => .ok (isAggSV x = true ∧ isAggSV y = true) [] (.u (.b (!b))) []
      | none => .bad
    | _, _ => .bad

theorem toList_mk (l : List UInt8) : (⟨l.toArray⟩ : ByteArray).toList = l := by rw [ByteArray.toList_eq]
theorem append_mk (a b : List UInt8) : (⟨a.toArray⟩ : ByteArray) ++ ⟨b.toArray⟩ = ⟨(a ++ b).toArray⟩ := by
  apply ByteArray.ext
  rw [ByteArray.data_append]
  simp

theorem eqField_inv {P : Program} {f : Field} {k : TK} (h : eqField P f = some k) : ∃ i, P.info? f.type = some i ∧ i.size = 1 ∧ f.name ≠ "_" ∧
    ((k = .bool ∧ P.underlying f.type = some .bool) ∨ (∃ q, k = .int q ∧ P.underlying f.type = some (.int q)) ∨ (k = .str ∧ P.underlying f.type = some .string)) := by
  unfold eqField at h
  split at h <;> try cases h
  rename_i d i hd hi
  split at h <;> try cases h
  rename_i hc
  refine ⟨i, hi, hc.2, hc.1, ?_⟩
  split at h <;> cases h
  · exact .inl ⟨rfl, hd⟩
  · exact .inr (.inl ⟨_, rfl, hd⟩)
  · exact .inr (.inr ⟨rfl, hd⟩)

theorem eqCells_ok {P : Program} {β : List Value} {Φ : Fz} (d : Nat) (w : World) : ∀ (fs : List Field) (k : Nat) (ks : List TK) (xs ys : List SV) (us vs : List Value) (b : Bool), eqFrom P k fs = some ks →
    eqCells ks xs ys = some b → us.length = k + xs.length → vs.length = k + ys.length →
    (∀ (j : Nat) y (u : Value), xs[j]? = some y → us[k + j]? = some u → V β Φ y u) → (∀ (j : Nat) y (u : Value), ys[j]? = some y → vs[k + j]? = some u → V β Φ y u) →
    (Op.eqFields (d + 1) us.toArray vs.toArray fs).run P w = .ok b w
  | [], k, ks, xs, ys, us, vs, b, he, h, hu, hv, h1, h2 => by
    cases he
    unfold eqCells at h
    split at h <;> try cases h
    · rfl
    all_goals (rename_i q; cases q)
  | f :: fs, k, ks, xs, ys, us, vs, b, he, h, hu, hv, h1, h2 => by
    unfold eqFrom at he
    split at he <;> try cases he
    rename_i x l hx hl
    split at he <;> try cases he
    rename_i hoff
    obtain ⟨i, hi, hsz, hname, hkind⟩ := eqField_inv hx
    have hagg : (isAgg f.type).run P w = .ok false w := by
      simp only [isAgg, Sem.run_bind]
      rcases hkind with ⟨_, hd⟩ | ⟨q, _, hd⟩ | ⟨_, hd⟩ <;> rw [run_underlying hd] <;> rfl
    have step : ∀ (x' y' : SV) (xs' ys' : List SV) (b1 q : Bool), xs = x' :: xs' → ys = y' :: ys' → eqCells l xs' ys' = some q → b = (b1 && q) →
        (∀ (U W : Value), V β Φ x' U → V β Φ y' W → (Op.equalIn (d + 1) f.type U W).run P w = .ok b1 w) → (Op.eqFields (d + 1) us.toArray vs.toArray (f :: fs)).run P w = .ok b w := by
      intro x' y' xs' ys' b1 q e1 e2 e3 e4 e5
      subst e1 e2 e4
      have hk : k < us.length := by simp at hu; omega
      have hk' : k < vs.length := by simp at hv; omega
      have heq := e5 us[k] vs[k] (h1 0 x' us[k] rfl (by simp [hk])) (h2 0 y' vs[k] rfl (by simp [hk']))
      have hp1 : (part f.type us.toArray f.offset).run P w = .ok us[k] w := by unfold part; simp [hagg, hoff, hk]
      have hp2 : (part f.type vs.toArray f.offset).run P w = .ok vs[k] w := by unfold part; simp [hagg, hoff, hk']
      have ih := eqCells_ok d w fs (k + 1) l xs' ys' us vs q hl e3 (by simp at hu; omega) (by simp at hv; omega)
        (fun j y u hy hu' => h1 (j + 1) y u (by simpa using hy) (by rw [show k + (j + 1) = k + 1 + j by omega]; exact hu')) (fun j y u hy hu' => h2 (j + 1) y u (by simpa using hy) (by rw [show k + (j + 1) = k + 1 + j by omega]; exact hu'))
      unfold Op.eqFields
      rw [if_pos hname]
      simp only [Sem.run_bind, hp1, hp2, heq, Result.andThen_ok, Sem.run_ite]
      cases b1
      · simp
      · simp [ih]
    unfold eqCells at h
    split at h <;> try cases h
    · rename_i e; cases e
    · rename_i e
      cases e
      split at h <;> cases h
      rename_i a r c s q hq
      refine step _ _ _ _ _ _ rfl rfl hq rfl fun U W hU hW => ?_
      rw [hU.inv_b, hW.inv_b]
      rcases hkind with ⟨_, hd⟩ | ⟨q, hk, hd⟩ | ⟨hk, hd⟩
      · exact run_equalIn_bool' w d _ _ _ hd
      · cases hk
      · cases hk
    · rename_i e
      cases e
      split at h <;> try cases h
      rename_i k1 a r k2 c s q hq
      split at h <;> cases h
      rename_i hkk
      subst hkk
      refine step _ _ _ _ _ _ rfl rfl hq rfl fun U W hU hW => ?_
      rw [hU.inv_i, hW.inv_i]
      rcases hkind with ⟨hk, hd⟩ | ⟨q, hk, hd⟩ | ⟨hk, hd⟩
      · cases hk
      · exact run_equalIn_int w d _ _ _ _ _ hd
      · cases hk
    · rename_i e
      cases e
      split at h <;> cases h
      rename_i hq
      refine step _ _ _ _ _ _ rfl rfl hq rfl fun U W hU hW => ?_
      rw [hU.inv_s, hW.inv_s]
      rcases hkind with ⟨hk, hd⟩ | ⟨q, hk, hd⟩ | ⟨_, hd⟩
      · cases hk
      · cases hk
      · rw [run_equalIn_string (P := P) w d f.type _ _ hd, toList_mk, toList_mk]

theorem op_bin {P : Program} {o : Oper} {g : Operand → SV} {t t' : TypeId} {op : BinOp} {x y : Operand} (ho : o.op = .binOp op t x y t') {ob : Prop} {rd : List (Nat × SObj)} {r : SV} {wr : List (Nat × SObj)}
    (he : evBin P t op (g x) (g y) = .ok ob rd r wr) (hob : ob) : OpR P o g rd r wr := by
  have hex : ∀ (ρ : Operand → Value) (w : World) (v : Value), (eqGuard op t x y (ρ x) (ρ y)).run P w = .ok () w → (binOp op t (ρ x) (ρ y)).run P w = .ok v w → (execOp ρ o).run P w = .ok (.value v) w := by
    intro ρ w v h1 h2
    simp only [execOp, ho, Sem.run_bind, h1, h2, Result.andThen_ok, Sem.run_pure]
  unfold evBin at he
  split at he
  · rename_i k a k' b hx hy
    have key : ∀ r', k = k' → (∀ w, (binOp op t (.int k a) (.int k b)).run P w = .ok r' w) → ∀ s, (∀ β Φ, V β Φ s r') → OpR P o g [] s [] := by
      intro r' hk hr s hs
      subst hk
      refine OpR.pure fun β Φ ρ w hg => ⟨r', hex ρ w r' ?_ ?_, hs β Φ⟩
      · rw [(hx ▸ hg x : V β Φ (.u (.i k a)) (ρ x)).inv_i, eqGuard_at_int]; rfl
      · rw [(hx ▸ hg x : V β Φ (.u (.i k a)) (ρ x)).inv_i, (hy ▸ hg y : V β Φ (.u (.i k b)) (ρ y)).inv_i]; exact hr w
    have keyS : ∀ r', (∀ w, (binOp op t (.int k a) (.int k' b)).run P w = .ok r' w) → ∀ s, (∀ β Φ, V β Φ s r') → OpR P o g [] s [] := by
      intro r' hr s hs
      refine OpR.pure fun β Φ ρ w hg => ⟨r', hex ρ w r' ?_ ?_, hs β Φ⟩
      · rw [(hx ▸ hg x : V β Φ (.u (.i k a)) (ρ x)).inv_i, eqGuard_at_int]; rfl
      · rw [(hx ▸ hg x : V β Φ (.u (.i k a)) (ρ x)).inv_i, (hy ▸ hg y : V β Φ (.u (.i k' b)) (ρ y)).inv_i]; exact hr w
    split at he <;> cases he
    · exact keyS _ (fun w => by rw [binOp_shl]; simp [Op.shift, show ¬ b < 0 by omega]) _ fun _ _ => V.mk_i _ _
    · exact keyS _ (fun w => by rw [binOp_shr]; simp [Op.shift, show ¬ b < 0 by omega]) _ fun _ _ => V.mk_i _ _
    · exact key _ hob (fun w => by rw [binOp_add]; rfl) _ fun _ _ => V.mk_i _ _
    · exact key _ hob (fun w => by rw [binOp_sub]; rfl) _ fun _ _ => V.mk_i _ _
    · exact key _ hob (fun w => by rw [binOp_mul]; rfl) _ fun _ _ => V.mk_i _ _
    · exact key _ hob.1 (fun w => by rw [binOp_quo]; simp [Op.intDiv, hob.2]) _ fun _ _ => V.mk_i _ _
    · exact key _ hob.1 (fun w => by rw [binOp_rem]; simp [Op.intDiv, hob.2]) _ fun _ _ => V.mk_i _ _
    · exact key _ hob (fun w => by rw [binOp_and, intBits_and]; rfl) _ fun _ _ => V.mk_i _ _
    · exact key _ hob (fun w => by rw [binOp_or, intBits_or]; rfl) _ fun _ _ => V.mk_i _ _
    · exact key _ hob (fun w => by rw [binOp_xor, intBits_xor]; rfl) _ fun _ _ => V.mk_i _ _
    · exact key _ hob (fun w => by rw [binOp_eql]; rfl) _ fun _ _ => V.mk_b _
    · exact key _ hob (fun w => by rw [binOp_neq]; rfl) _ fun _ _ => V.mk_b _
    · exact key _ hob (fun w => by rw [binOp_lss]; rfl) _ fun _ _ => V.mk_b _
    · exact key _ hob (fun w => by rw [binOp_leq]; rfl) _ fun _ _ => V.mk_b _
    · exact key _ hob (fun w => by rw [binOp_gtr]; rfl) _ fun _ _ => V.mk_b _
    · exact key _ hob (fun w => by rw [binOp_geq]; rfl) _ fun _ _ => V.mk_b _
  · rename_i a b hx hy
    have key : ∀ r', (∀ w, (binOp op t (.string ⟨a.toArray⟩) (.string ⟨b.toArray⟩)).run P w = .ok r' w) → ∀ s, (∀ β Φ, V β Φ s r') → OpR P o g [] s [] := by
      intro r' hr s hs
      refine OpR.pure fun β Φ ρ w hg => ⟨r', hex ρ w r' ?_ ?_, hs β Φ⟩
      · rw [(hx ▸ hg x : V β Φ (.u (.s a)) (ρ x)).inv_s, eqGuard_at_string]; rfl
      · rw [(hx ▸ hg x : V β Φ (.u (.s a)) (ρ x)).inv_s, (hy ▸ hg y : V β Φ (.u (.s b)) (ρ y)).inv_s]; exact hr w
    split at he <;> cases he
    · refine key (.string ⟨(a ++ b).toArray⟩) (fun w => ?_) _ fun _ _ => V.mk_s _
      rw [binOp_string_add, run_string_add_sum (P := P) w _ _ (by simpa [ByteArray.size] using hob), append_mk]
    · exact key _ (fun w => by rw [binOp_string_eql, toList_mk, toList_mk]; rfl) _ fun _ _ => V.mk_b _
    · exact key _ (fun w => by rw [binOp_string_neq, toList_mk, toList_mk]; rfl) _ fun _ _ => V.mk_b _
    · exact key _ (fun w => by rw [binOp_string_lss, toList_mk, toList_mk]; rfl) _ fun _ _ => V.mk_b _
    · exact key _ (fun w => by rw [binOp_string_leq, toList_mk, toList_mk]; rfl) _ fun _ _ => V.mk_b _
    · exact key _ (fun w => by rw [binOp_string_gtr, toList_mk, toList_mk]; rfl) _ fun _ _ => V.mk_b _
    · exact key _ (fun w => by rw [binOp_string_geq, toList_mk, toList_mk]; rfl) _ fun _ _ => V.mk_b _
  · rename_i a b hx hy
    have key : ∀ r', (∀ w, (binOp op t (.bool a) (.bool b)).run P w = .ok r' w) → ∀ s, (∀ β Φ, V β Φ s r') → OpR P o g [] s [] := by
      intro r' hr s hs
      refine OpR.pure fun β Φ ρ w hg => ⟨r', hex ρ w r' ?_ ?_, hs β Φ⟩
      · rw [(hx ▸ hg x : V β Φ (.u (.b a)) (ρ x)).inv_b, eqGuard_at_bool]; rfl
      · rw [(hx ▸ hg x : V β Φ (.u (.b a)) (ρ x)).inv_b, (hy ▸ hg y : V β Φ (.u (.b b)) (ρ y)).inv_b]; exact hr w
    split at he <;> try cases he
    · rename_i ti ht
      split at he <;> cases he
      rename_i hk
      have hu := bool_of ht hk
      refine key _ (fun w => ?_) _ fun _ _ => V.mk_b _
      have := run_equalIn_bool' (P := P) w 9999 t a b hu
      simp [binOp, Op.equal, Op.maxDepth, this]
    · rename_i ti ht
      split at he <;> cases he
      rename_i hk
      have hu := bool_of ht hk
      refine key _ (fun w => ?_) _ fun _ _ => V.mk_b _
      have := run_equalIn_bool' (P := P) w 9999 t a b hu
      simp [binOp, Op.equal, Op.maxDepth, this]
  · rename_i hy
    have hyv : ∀ β Φ (ρ : Operand → Value), (∀ x, V β Φ (g x) (ρ x)) → ρ y = .pointer none := fun β Φ ρ hg => (hy ▸ hg y : V β Φ (.u .np) (ρ y)).inv_np
    have pt : ∀ β Φ (ρ : Operand → Value), (∀ x, V β Φ (g x) (ρ x)) → ∀ b, isNilPV (g x) = some b → (match g x with | .u .np | .p _ _ | .rp _ _ _ _ | .u (.fp _) => True | _ => False) → ∃ p, ρ x = .pointer p ∧ p.isNone = b := by
      intro β Φ ρ hg b hb hm
      have hv := hg x
      generalize g x = gx at *
      split at hm
      · cases hb; rw [hv.inv_np]; exact ⟨_, rfl, rfl⟩
      · cases hb; obtain ⟨a, _, h⟩ := hv.inv_p; exact ⟨_, h, rfl⟩
      · cases hb; obtain ⟨a, _, _, _, h⟩ := hv.inv_rp; exact ⟨_, h, rfl⟩
      · cases hb; obtain ⟨a, _, h, _⟩ := hv.inv_fp; exact ⟨_, h, rfl⟩
      · exact hm.elim
    have eqn0 : ∀ (d : Nat) (e : TypeId) (p : Option Addr) (w : World), P.underlying t = some (.pointer e) → (Op.equalIn (d + 1) t (.pointer p) (.pointer none)).run P w = .ok p.isNone w := by
      intro d e p w hu
      cases p <;> simp [Op.equalIn, run_underlying hu]
    have eqn : ∀ (e : TypeId) (p : Option Addr) (w : World), P.underlying t = some (.pointer e) → (Op.equalIn 10000 t (.pointer p) (.pointer none)).run P w = .ok p.isNone w := fun e p w hu => eqn0 9999 e p w hu
    split at he <;> try cases he
    · rename_i ti b ht hb
      have fin : ∀ e, ti.kind = .ptr e → (match g x with | .u .np | .p _ _ | .rp _ _ _ _ | .u (.fp _) => True | _ => False) → OpR P o g [] (.u (.b b)) [] := by
        intro e hk hm
        refine OpR.pure fun β Φ ρ w hg => ?_
        obtain ⟨p, hp, hb'⟩ := pt β Φ ρ hg b hb hm
        refine ⟨_, hex ρ w (.bool b) ?_ ?_, V.mk_b _⟩
        · rw [hp, eqGuard_at_pointer]; rfl
        · rw [hp, hyv β Φ ρ hg, ← hb']
          simp [binOp, Op.equal, Op.maxDepth, eqn e p w (ptr_of ht hk)]
      split at he <;> cases he
      all_goals (rename_i hx; exact fin _ (by assumption) (by rw [hx]; trivial))
    · rename_i ti b ht hb
      have fin : ∀ e, ti.kind = .ptr e → (match g x with | .u .np | .p _ _ | .rp _ _ _ _ | .u (.fp _) => True | _ => False) → OpR P o g [] (.u (.b (!b))) [] := by
        intro e hk hm
        refine OpR.pure fun β Φ ρ w hg => ?_
        obtain ⟨p, hp, hb'⟩ := pt β Φ ρ hg b hb hm
        refine ⟨_, hex ρ w (.bool (!b)) ?_ ?_, V.mk_b _⟩
        · rw [hp, eqGuard_at_pointer]; rfl
        · rw [hp, hyv β Φ ρ hg, ← hb']
          simp [binOp, Op.equal, Op.maxDepth, eqn e p w (ptr_of ht hk)]
      split at he <;> cases he
      all_goals (rename_i hx; exact fin _ (by assumption) (by rw [hx]; trivial))
  · have fin : ∀ ks b, eqKinds P t = some ks → eqCells ks (g x).cells (g y).cells = some b → isAggSV (g x) = true → isAggSV (g y) = true → ∀ (β : List Value) (Φ : Fz) (ρ : Operand → Value) (w : World), (∀ x, V β Φ (g x) (ρ x)) →
        ∃ us vs : List Value, ρ x = .agg us.toArray ∧ ρ y = .agg vs.toArray ∧ (eqGuard op t x y (ρ x) (ρ y)).run P w = .ok () w ∧ (Op.equalIn 10000 t (.agg us.toArray) (.agg vs.toArray)).run P w = .ok b w := by
      intro ks b hks hb hax hay β Φ ρ w hg
      obtain ⟨us, hus, hul, hu⟩ := (hg x).agg_cells hax
      obtain ⟨vs, hvs, hvl, hv⟩ := (hg y).agg_cells hay
      unfold eqKinds at hks
      split at hks <;> try cases hks
      rename_i F hF
      split at hks <;> try cases hks
      rename_i hc
      refine ⟨us, vs, hus, hvs, ?_, ?_⟩
      · rw [hus, hvs]; exact run_eqGuard_agg w op t x y _ _ hc.2
      · have hFo : P.fieldsOf t = F := by simp [Program.fieldsOf, hF]
        rw [run_equalIn_struct w 9999 t _ _ (by rw [hFo]; exact hF) hc.1, hFo]
        exact eqCells_ok (β := β) (Φ := Φ) 9998 w F.toList 0 ks _ _ us vs b hks hb (by omega) (by omega) (fun j y u h1 h2 => hu j y u h1 (by simpa using h2)) (fun j y u h1 h2 => hv j y u h1 (by simpa using h2))
    split at he <;> try cases he
    · rename_i ks hks
      split at he <;> cases he
      rename_i b hb
      refine OpR.pure fun β Φ ρ w hg => ?_
      obtain ⟨us, vs, h1, h2, h3, h4⟩ := fin ks b hks hb hob.1 hob.2 β Φ ρ w hg
      refine ⟨_, hex ρ w (.bool b) h3 ?_, V.mk_b _⟩
      rw [h1, h2, run_eql_struct, h4]; rfl
    · rename_i ks hks
      split at he <;> cases he
      rename_i b hb
      refine OpR.pure fun β Φ ρ w hg => ?_
      obtain ⟨us, vs, h1, h2, h3, h4⟩ := fin ks b hks hb hob.1 hob.2 β Φ ρ w hg
      refine ⟨_, hex ρ w (.bool (!b)) h3 ?_, V.mk_b _⟩
      rw [h1, h2, run_neq_struct, h4]; rfl

/-! ### a new block that is never written again -/
section
variable {w0 : World} {ω0 : Nat → Nat} {β : List Value} {σ : List SObj} {Φ : Fz} {ω : Nat → Nat} {w : World}
theorem Rep.frost (h : Rep w0 ω0 β σ Φ ω w) (o : Obj) : ∃ (Φ' : Fz) (ω' : Nat → Nat), Φ.le Φ' ∧ Φ' w.heap.size = some o ∧ Rep w0 ω0 β σ Φ' ω' (w.alloc o) := by
  have hle : Φ.le (fun b => if b = w.heap.size then some o else Φ b) := by
    intro b ob hb
    have := h.lt b (by rw [(h.fz b ob hb).1]; omega)
    simp only; rw [if_neg (by omega)]; exact hb
  refine ⟨fun b => if b = w.heap.size then some o else Φ b, fun b => if b = w.heap.size then 1 else ω b, hle, by simp, ?_⟩
  refine ⟨h.os, h.tape, h.output, Nat.le_trans h.size (by simp), fun b hb h0 => ?_, fun b ob hb => ?_, fun b hb => ?_, h.len, fun n ob v hn hv => ?_, h.gl.mono hle⟩
  · obtain ⟨h1, h2⟩ := h.frame b hb h0
    have : b < w.heap.size := Nat.lt_of_lt_of_le hb h.size
    exact ⟨by rw [Go.RowKit.Below.heap_alloc w o b this]; exact h1, by rw [if_neg (by omega)]; exact h2⟩
  · by_cases e : b = w.heap.size
    · subst e
      simp only [if_true] at hb ⊢
      cases hb
      exact ⟨trivial, heap_alloc_new w _⟩
    · rw [if_neg e] at hb ⊢
      obtain ⟨h1, h2⟩ := h.fz b ob hb
      exact ⟨h1, by rw [Go.RowKit.Below.heap_alloc w o b (h.lt b (by omega))]; exact h2⟩
  · by_cases e : b = w.heap.size
    · subst e; simp
    · rw [if_neg e] at hb; have := h.lt b hb; simp; omega
  · refine (h.obj n ob v hn hv).mono (BExt.refl _) hle fun b hb => ?_
    have := h.lt b (by omega)
    exact ⟨by rw [if_neg (by omega)]; exact hb, Go.RowKit.Below.heap_alloc w o b this⟩

theorem Rep.drew (h : Rep w0 ω0 β σ Φ ω w) : Rep w0 ω0 β σ Φ ω w.drew := h.of_heap rfl rfl rfl rfl
end

/-- a frozen row in a block of its own -/
theorem V.fz_new {β : List Value} {Φ : Fz} {els : List (List PV)} {sz b cap : Nat} {cs : Array Value} {T : TypeId} {fr : Nat × Nat} (hb : Φ b = some (.cells cs T fr)) (hsz : ∀ e ∈ els, e.length = sz) (hl : els.length ≤ cap) (hm : cap ≤ maxLen)
    (hcs : els.length * sz ≤ cs.size) (hj : ∀ (i : Nat) e (j : Nat) x u, els[i]? = some e → e[j]? = some x → cs[i * sz + j]? = some u → VP Φ x u) {c : Option Nat} (hc : ∀ k, c = some k → k = cap) :
    V β Φ (.u (.fz els c)) (.slice (some ⟨b, 0, none⟩) els.length cap) := by
  refine .u _ _ (.fz sz els c _ cap (fun i j => cs.getD (i * sz + j) (.bool false)) hsz hl hm hc (fun _ => rfl) (fun i e j x ad h1 h2 h3 => ?_) fun i e j x h1 h2 => ?_)
  all_goals
    have h4 := (List.getElem?_eq_some_iff.1 h1).1
    have h5 := (List.getElem?_eq_some_iff.1 h2).1
    have h6 := hsz e (List.mem_of_getElem? h1)
    have hlt : i * sz + j < cs.size := by
      have : (i + 1) * sz ≤ els.length * sz := Nat.mul_le_mul_right _ h4
      rw [Nat.succ_mul] at this; omega
    have hcell : cs[i * sz + j]? = some (cs[i * sz + j]) := Array.getElem?_eq_getElem hlt
    have hgd : cs.getD (i * sz + j) (.bool false) = cs[i * sz + j] := by simp [Array.getD_eq_getD_getElem?, hcell]
  · cases h3
    simp only [Fz.cell, Addr.add_lit, Nat.zero_add, hb, Option.isSome_none, Bool.false_eq_true, if_false, hcell, hgd]
  · rw [hgd]; exact hj i e j x _ h1 h2 hcell

/-! ### slices -/
def natSV : SV → Option Int
  | .u (.i _ n) => some n
  | _ => none

/-- an optional bound -/
def bndSV (d : Int) : Option SV → Option Int
  | none => some d
  | some x => natSV x

def evSlice (P : Program) (σ : Nat → SObj) (t : TypeId) (x : SV) (lo hi mx : Option SV) : Ev :=
  match tiOf P t with
  | some ti => match ti.kind, x with
    | .str, .u (.s l) => match bndSV 0 lo, bndSV l.length hi, mx with
      | some a, some b, none => .ok (0 ≤ a ∧ a ≤ b ∧ b ≤ l.length) [] (.u (.s ((l.take b.toNat).drop a.toNat))) []
      | _, _, _ => .bad
    | .slice e, .u (.fz els c) => match tiOf P e with
      | some eti => match bndSV 0 lo, bndSV els.length hi with
        | some a, some b => match mx with
          | none => .ok (0 ≤ a ∧ a ≤ b ∧ b ≤ els.length ∧ ∀ y ∈ els, y.length = eti.size) [] (.u (.fz ((els.take b.toNat).drop a.toNat) (c.map (· - a.toNat)))) []
          | some m => match hi, natSV m with
            | some _, some q => .ok (0 ≤ a ∧ a ≤ b ∧ b ≤ q ∧ q ≤ els.length ∧ ∀ y ∈ els, y.length = eti.size) [] (.u (.fz ((els.take b.toNat).drop a.toNat) (some (q.toNat - a.toNat)))) []
            | _, _ => .bad
        | _, _ => .bad
      | none => .bad
    | .slice e, .h m => match σ m with
      | .row T s els => match tiOf P e with
        | some eti => match bndSV 0 lo, bndSV els.length hi with
          | some a, some b => match mx with
            | none => .ok (0 ≤ a ∧ a ≤ b ∧ b ≤ els.length ∧ 0 < els.length ∧ s = eti.size) [(m, .row T s els)] (.sl m s a.toNat b.toNat) []
            | some k => match lo, hi, natSV k with
              | some _, some _, some q => .ok (0 ≤ a ∧ a ≤ b ∧ b ≤ q ∧ q ≤ els.length) [(m, .row T s els)] .j []
              | _, _, _ => .bad
          | _, _ => .bad
        | none => .bad
      | _ => .bad
    | .slice e, .sl m s l h => match σ m with
      | .row T s' els => match tiOf P e with
        | some eti => match bndSV 0 lo, bndSV ((h - l : Nat) : Int) hi, mx with
          | some a, some b, none => .ok (0 ≤ a ∧ a ≤ b ∧ (l : Int) + b ≤ els.length ∧ s = eti.size) [(m, .row T s' els)] (.sl m s (l + a.toNat) (l + b.toNat)) []
          | _, _, _ => .bad
        | none => .bad
      | _ => .bad
    | _, _ => .bad
  | none => .bad

theorem bnd_val {β : List Value} {Φ : Fz} {g : Operand → SV} {ρ : Operand → Value} (hg : ∀ x, V β Φ (g x) (ρ x)) {d : Int} {b : Operand} {n : Int} (h : natSV (g b) = some n) : ∃ k, ρ b = .int k n := by
  have hv := hg b
  generalize g b = y at *
  unfold natSV at h
  split at h <;> cases h
  exact ⟨_, hv.inv_i⟩

theorem V.fz_cut {β : List Value} {Φ : Fz} {els : List (List PV)} {c : Option Nat} {v : Value} (h : V β Φ (.u (.fz els c)) v) {l q m size : Nat} (h1 : l ≤ q) (h2 : q ≤ els.length) (hq : q ≤ m)
    (hsize : ∀ e ∈ els, e.length = size) {a : Option Addr} {cap : Nat} (hv : v = .slice a els.length cap) (hm : m ≤ cap) {c' : Option Nat} (hc' : ∀ k, c' = some k → k = m - l) :
    V β Φ (.u (.fz ((els.take q).drop l) c')) (sliced a l q m size) := by
  obtain ⟨sz, a', cap', f, hv', q1, q2, q3, q4, q5, q6, q7⟩ := h.inv_fz
  rw [hv] at hv'
  cases hv'
  have hlen : ((els.take q).drop l).length = q - l := by simp; omega
  unfold sliced
  rw [show q - l = ((els.take q).drop l).length from hlen.symm]
  have hget : ∀ (i : Nat) e, ((els.take q).drop l)[i]? = some e → els[l + i]? = some e ∧ l + i < q := by
    intro i e he
    rw [List.getElem?_drop, List.getElem?_take] at he
    split at he
    · exact ⟨he, by omega⟩
    · cases he
  refine .u _ _ (.fz size _ c' _ _ (fun i j => f (l + i) j) (fun e he => hsize e (List.mem_of_mem_take (List.mem_of_mem_drop he))) (by omega) (by omega) hc' (fun h0 => ?_) (fun i e j x ad he hx had => ?_) fun i e j x he hx => ?_)
  · rw [if_neg (by omega)]
    obtain ⟨ad, rfl⟩ := Option.isSome_iff_exists.1 (q5 (by omega))
    rfl
  · obtain ⟨he', hlt⟩ := hget i e he
    have hsz : sz = size := by rw [← q1 e (List.mem_of_getElem? he'), hsize e (List.mem_of_getElem? he')]
    subst hsz
    rw [if_neg (by omega)] at had
    obtain ⟨a0, rfl, rfl⟩ := Option.map_eq_some_iff.1 had
    rw [add_add, show l * sz + (i * sz + j) = (l + i) * sz + j by rw [Nat.add_mul]; omega]
    exact q6 (l + i) e j x a0 he' hx rfl
  · exact q7 _ e j x (hget i e he).1 hx

theorem op_slice {P : Program} {o : Oper} {g : Operand → SV} {t : TypeId} {x : Operand} {lo hi mx : Option Operand} (ho : o.op = .slice t x lo hi mx) {ob : Prop} {rd : List (Nat × SObj)} {r : SV} {wr : List (Nat × SObj)}
    {σf : Nat → SObj} (he : evSlice P σf t (g x) (lo.map g) (hi.map g) (mx.map g) = .ok ob rd r wr) (hob : ob) : OpR P o g rd r wr := by
  unfold evSlice at he
  split at he <;> try cases he
  rename_i ti ht
  have hex : ∀ (ρ : Operand → Value) (w : World) (v : Value), (Instr.slice t (ρ x) (lo.map ρ) (hi.map ρ) (mx.map ρ)).run P w = .ok v w → (P.underlying t = some .string ∨ P.underlying t = some (.slice (P.elem t))) → (execOp ρ o).run P w = .ok (.value v) w := by
    intro ρ w v h1 h2
    simp only [execOp, ho, Sem.run_bind]
    rcases h2 with h2 | h2
    · rw [run_sliceAt_string w t _ _ _ _ h2, h1]; rfl
    · rw [run_sliceAt_slice w t _ _ _ _ h2, h1]; rfl
  split at he
  · rename_i l hk hx
    have hu := str_of ht hk
    split at he <;> try cases he
    rename_i a b ha hb hm
    have hmx : mx = none := by cases mx <;> simp at hm ⊢
    subst hmx
    obtain ⟨h0, h1, h2⟩ := hob
    refine OpR.pure fun β Φ ρ w hg => ?_
    have hv := (hx ▸ hg x : V β Φ (.u (.s l)) (ρ x)).inv_s
    have hsize : (⟨l.toArray⟩ : ByteArray).size = l.length := by simp [ByteArray.size]
    refine ⟨_, hex ρ w _ ?_ (.inl hu), V.mk_s _⟩
    rw [hv]
    have hext : ∀ p q : Nat, (⟨l.toArray⟩ : ByteArray).extract p q = ⟨((l.take q).drop p).toArray⟩ := by
      intro p q
      rw [ByteArray.extract_mk, List.take_drop]
      by_cases hpq : p ≤ q
      · rw [show p + (q - p) = q by omega]
      · rw [List.drop_eq_nil_of_le (by simp; omega), List.drop_eq_nil_of_le (by simp; omega)]
    cases lo with
    | none =>
      cases ha
      cases hi with
      | none =>
        cases hb
        have := run_slice_string_all (P := P) w t ⟨l.toArray⟩ hu
        rw [hsize, hext] at this
        simpa using this
      | some kh =>
        obtain ⟨k, hk'⟩ := bnd_val hg (d := 0) hb
        have := run_slice_string_h (P := P) w t ⟨l.toArray⟩ hu k b (by omega) (by rw [hsize]; omega)
        rw [hext] at this
        simpa [hk'] using this
    | some kl =>
      obtain ⟨k1, hk1⟩ := bnd_val hg (d := 0) ha
      cases hi with
      | none =>
        cases hb
        have := run_slice_string_l (P := P) w t ⟨l.toArray⟩ hu k1 a (by omega) (by rw [hsize]; omega)
        rw [hsize, hext] at this
        simpa [hk1] using this
      | some kh =>
        obtain ⟨k2, hk2⟩ := bnd_val hg (d := 0) hb
        have := run_slice_string (P := P) w t ⟨l.toArray⟩ k1 k2 a b hu h0 h1 (by rw [hsize]; omega)
        rw [hext] at this
        simpa [hk1, hk2] using this
  · rename_i e els c hk hx
    have hu := slice_of ht hk
    split at he <;> try cases he
    rename_i eti hte
    have hue : P.underlying t = some (.slice (P.elem t)) := by simp [Program.elem, hu]
    have helem : P.elem t = e := by simp [Program.elem, hu]
    split at he <;> try cases he
    rename_i a b ha hb
    split at he
    · cases he
      rename_i hm
      have hmx : mx = none := by cases mx <;> simp at hm ⊢
      subst hmx
      obtain ⟨h0, h1, h2, hsz'⟩ := hob
      refine OpR.pure fun β Φ ρ w hg => ?_
      have hV : V β Φ (.u (.fz els c)) (ρ x) := hx ▸ hg x
      obtain ⟨sz, ad, cap, f, hv, _, hlc, hmc, hcc, _⟩ := hV.inv_fz
      refine ⟨sliced ad a.toNat b.toNat cap eti.size, hex ρ w _ ?_ (.inr hue), hV.fz_cut (by omega) (by omega) (by omega) hsz' hv (Nat.le_refl _) (fun k hk => ?_)⟩
      · rw [hv]
        cases lo with
        | none =>
          cases ha
          cases hi with
          | none =>
            cases hb
            have := run_slice_all (P := P) w t ad els.length cap hue
            rw [helem, run_sizeOf hte] at this
            simpa using this
          | some kh =>
            obtain ⟨k, hk'⟩ := bnd_val hg (d := 0) hb
            have := run_slice_h (P := P) w t ad els.length cap hue k b (by omega) (by omega)
            rw [helem, run_sizeOf hte] at this
            simpa [hk'] using this
        | some kl =>
          obtain ⟨k1, hk1⟩ := bnd_val hg (d := 0) ha
          cases hi with
          | none =>
            cases hb
            have := run_slice_l (P := P) w t ad els.length cap hue k1 a (by omega) (by omega)
            rw [helem, run_sizeOf hte] at this
            simpa [hk1] using this
          | some kh =>
            obtain ⟨k2, hk2⟩ := bnd_val hg (d := 0) hb
            have := run_slice_lh (P := P) w t ad els.length cap hue k1 k2 a b (by omega) (by omega) (by omega)
            rw [helem, run_sizeOf hte] at this
            simpa [hk1, hk2] using this
      · obtain ⟨q, hq, rfl⟩ := Option.map_eq_some_iff.1 hk
        rw [hcc q hq]
    · rename_i m hm
      split at he <;> cases he
      rename_i kh0 q hhi hqv
      obtain ⟨h0, h1, h2, h3, hsz'⟩ := hob
      obtain ⟨km, rfl, hkm⟩ : ∃ y, mx = some y ∧ g y = m := by
        cases mx with
        | none => simp at hm
        | some y => exact ⟨y, rfl, by simpa using hm⟩
      obtain ⟨kh, rfl⟩ : ∃ y, hi = some y := by
        cases hi with
        | none => cases hhi
        | some y => exact ⟨y, rfl⟩
      refine OpR.pure fun β Φ ρ w hg => ?_
      have hV : V β Φ (.u (.fz els c)) (ρ x) := hx ▸ hg x
      obtain ⟨sz, ad, cap, f, hv, _, hlc, hmc, hcc, _⟩ := hV.inv_fz
      obtain ⟨k3, hk3⟩ := bnd_val hg (d := 0) (hkm ▸ hqv)
      obtain ⟨k2, hk2⟩ := bnd_val hg (d := 0) hb
      refine ⟨sliced ad a.toNat b.toNat q.toNat eti.size, hex ρ w _ ?_ (.inr hue), hV.fz_cut (by omega) (by omega) (by omega) hsz' hv (by omega) (fun k hk => by cases hk; rfl)⟩
      rw [hv]
      cases lo with
      | none =>
        cases ha
        have := run_slice_hm (P := P) w t ad els.length cap hue k2 k3 b q (by omega) (by omega) (by omega)
        rw [helem, run_sizeOf hte] at this
        simpa [hk2, hk3] using this
      | some kl =>
        obtain ⟨k1, hk1⟩ := bnd_val hg (d := 0) ha
        have := run_slice_lhm (P := P) w t ad els.length cap hue k1 k2 k3 a b q (by omega) (by omega) (by omega) (by omega)
        rw [helem, run_sizeOf hte] at this
        simpa [hk1, hk2, hk3] using this
  · rename_i e m hk hx
    have hu := slice_of ht hk
    have hue : P.underlying t = some (.slice (P.elem t)) := by simp [Program.elem, hu]
    have helem : P.elem t = e := by simp [Program.elem, hu]
    split at he <;> try cases he
    rename_i T s els hσ
    split at he <;> try cases he
    rename_i eti hte
    split at he <;> try cases he
    rename_i a b ha hb
    split at he
    · cases he
      rename_i hm
      have hmx : mx = none := by cases mx <;> simp at hm ⊢
      subst hmx
      obtain ⟨h0, h1, h2, h3, rfl⟩ := hob
      refine OpR.read fun w0 ω0 β Φ ω σ w ρ hR hg hrd => ?_
      obtain ⟨v, hβ, hO⟩ := hR.at_ (hrd m (.row T eti.size els) (by simp))
      have hv := ((hx ▸ hg x : V β Φ (.h m) (ρ x)).inv_h).1
      rw [hβ] at hv
      have hv := (Option.some.inj hv).symm
      rcases hO with ⟨_, _, rfl⟩ | ⟨bk, cap, cs, rfl, hω, hh, hcs, hcl, hmm, _⟩
      · simp at h3
      refine ⟨sliced (some ⟨bk, 0, none⟩) a.toNat b.toNat cap eti.size, hex ρ w _ ?_ (.inr hue), ?_⟩
      · rw [hv]
        cases lo with
        | none =>
          cases ha
          cases hi with
          | none =>
            cases hb
            have := run_slice_all (P := P) w t (some ⟨bk, 0, none⟩) els.length cap hue
            rw [helem, run_sizeOf hte] at this
            simpa using this
          | some kh =>
            obtain ⟨k, hk'⟩ := bnd_val hg (d := 0) hb
            have := run_slice_h (P := P) w t (some ⟨bk, 0, none⟩) els.length cap hue k b (by omega) (by omega)
            rw [helem, run_sizeOf hte] at this
            simpa [hk'] using this
        | some kl =>
          obtain ⟨k1, hk1⟩ := bnd_val hg (d := 0) ha
          cases hi with
          | none =>
            cases hb
            have := run_slice_l (P := P) w t (some ⟨bk, 0, none⟩) els.length cap hue k1 a (by omega) (by omega)
            rw [helem, run_sizeOf hte] at this
            simpa [hk1] using this
          | some kh =>
            obtain ⟨k2, hk2⟩ := bnd_val hg (d := 0) hb
            have := run_slice_lh (P := P) w t (some ⟨bk, 0, none⟩) els.length cap hue k1 k2 a b (by omega) (by omega) (by omega)
            rw [helem, run_sizeOf hte] at this
            simpa [hk1, hk2] using this
      · have := V.sl (Φ := Φ) m eti.size a.toNat b.toNat ⟨bk, 0, none⟩ (if cap = a.toNat then (⟨bk, 0, none⟩ : Addr) else (⟨bk, 0, none⟩ : Addr).add (a.toNat * eti.size)) _ cap hβ (by omega) (by omega) (fun h => by rw [if_neg (by omega)])
        unfold sliced
        split <;> simp_all
    · rename_i kq hm
      split at he <;> cases he
      rename_i kl0 kh0 q hlo hhi hqv
      obtain ⟨h0, h1, h2, h3⟩ := hob
      obtain ⟨km, rfl, hkm⟩ : ∃ y, mx = some y ∧ g y = kq := by
        cases mx with
        | none => simp at hm
        | some y => exact ⟨y, rfl, by simpa using hm⟩
      obtain ⟨kh, rfl⟩ : ∃ y, hi = some y := by
        cases hi with
        | none => cases hhi
        | some y => exact ⟨y, rfl⟩
      obtain ⟨kl, rfl⟩ : ∃ y, lo = some y := by
        cases lo with
        | none => cases hlo
        | some y => exact ⟨y, rfl⟩
      refine OpR.read fun w0 ω0 β Φ ω σ w ρ hR hg hrd => ?_
      obtain ⟨v, hβ, hO⟩ := hR.at_ (hrd m (.row T s els) (by simp))
      have hv := ((hx ▸ hg x : V β Φ (.h m) (ρ x)).inv_h).1
      rw [hβ] at hv
      have hv := (Option.some.inj hv).symm
      obtain ⟨ad, cap, hvv, hcl⟩ : ∃ ad cap, v = .slice ad els.length cap ∧ els.length ≤ cap := by
        rcases hO with ⟨ad, rfl, rfl⟩ | ⟨bk, cap, cs, rfl, hω, hh, hcs, hcl, hmm, _⟩
        · exact ⟨ad, 0, rfl, Nat.le_refl _⟩
        · exact ⟨_, cap, rfl, hcl⟩
      obtain ⟨k3, hk3⟩ := bnd_val hg (d := 0) (hkm ▸ hqv)
      obtain ⟨k2, hk2⟩ := bnd_val hg (d := 0) hb
      obtain ⟨k1, hk1⟩ := bnd_val hg (d := 0) ha
      refine ⟨sliced ad a.toNat b.toNat q.toNat eti.size, hex ρ w _ ?_ (.inr hue), .j _⟩
      rw [hv, hvv]
      have := run_slice_lhm (P := P) w t ad els.length cap hue k1 k2 k3 a b q (by omega) (by omega) (by omega) (by omega)
      rw [helem, run_sizeOf hte] at this
      simpa [hk1, hk2, hk3] using this
  · rename_i e m s l h hk hx
    have hu := slice_of ht hk
    have hue : P.underlying t = some (.slice (P.elem t)) := by simp [Program.elem, hu]
    have helem : P.elem t = e := by simp [Program.elem, hu]
    split at he <;> try cases he
    rename_i T s' els hσ
    split at he <;> try cases he
    rename_i eti hte
    split at he <;> try cases he
    rename_i a b ha hb hm
    have hmx : mx = none := by cases mx <;> simp at hm ⊢
    subst hmx
    obtain ⟨h0, h1, h2, rfl⟩ := hob
    refine OpR.read fun w0 ω0 β Φ ω σ w ρ hR hg hrd => ?_
    obtain ⟨v, hβ, hO⟩ := hR.at_ (hrd m (.row T s' els) (by simp))
    obtain ⟨ad, ad', ln, c, hβ', hv, q1, q2, q3⟩ := (hx ▸ hg x : V β Φ (.sl m eti.size l h) (ρ x)).inv_sl
    rw [hβ] at hβ'
    have hvv := Option.some.inj hβ'
    have hc : els.length ≤ c := by
      rcases hO with ⟨ax, hv0, rfl⟩ | ⟨bk, cap, cs, hv0, hω, hh, hcs, hcl, hmm, _⟩
      · exact Nat.zero_le _
      · rw [hv0] at hvv; cases hvv; exact hcl
    rw [hvv] at hβ
    refine ⟨sliced (some ad') a.toNat b.toNat (c - l) eti.size, hex ρ w _ ?_ (.inr hue), ?_⟩
    · rw [hv]
      cases lo with
      | none =>
        cases ha
        cases hi with
        | none =>
          cases hb
          have := run_slice_all (P := P) w t (some ad') (h - l) (c - l) hue
          rw [helem, run_sizeOf hte] at this
          simpa using this
        | some kh =>
          obtain ⟨k, hk'⟩ := bnd_val hg (d := 0) hb
          have := run_slice_h (P := P) w t (some ad') (h - l) (c - l) hue k b (by omega) (by omega)
          rw [helem, run_sizeOf hte] at this
          simpa [hk'] using this
      | some kl =>
        obtain ⟨k1, hk1⟩ := bnd_val hg (d := 0) ha
        cases hi with
        | none =>
          cases hb
          have := run_slice_l (P := P) w t (some ad') (h - l) (c - l) hue k1 a (by omega) (by omega)
          rw [helem, run_sizeOf hte] at this
          simpa [hk1] using this
        | some kh =>
          obtain ⟨k2, hk2⟩ := bnd_val hg (d := 0) hb
          have := run_slice_lh (P := P) w t (some ad') (h - l) (c - l) hue k1 k2 a b (by omega) (by omega) (by omega)
          rw [helem, run_sizeOf hte] at this
          simpa [hk1, hk2] using this
    · have := V.sl (Φ := Φ) m eti.size (l + a.toNat) (l + b.toNat) ad (if c - l = a.toNat then ad' else ad'.add (a.toNat * eti.size)) _ c hβ (by omega) (by omega) (fun hlt => by
        rw [if_neg (by omega), q3 (by omega), add_add, Nat.add_mul])
      unfold sliced
      have e1 : l + b.toNat - (l + a.toNat) = b.toNat - a.toNat := by omega
      have e2 : c - (l + a.toNat) = c - l - a.toNat := by omega
      rw [e1, e2] at this
      split <;> simp_all
  · cases he

/-! ### lengths -/
def evLen (P : Program) (σ : Nat → SObj) (t : TypeId) (x : SV) : Ev :=
  match tiOf P t with
  | some ti => match ti.kind, x with
    | .str, .u (.s l) => .ok True [] (.u (.i .i64 l.length)) []
    | .slice _, .u (.fz els _) => .ok True [] (.u (.i .i64 els.length)) []
    | .slice _, .h n => match σ n with
      | .row T s els => .ok True [(n, .row T s els)] (.u (.i .i64 els.length)) []
      | _ => .bad
    | .slice _, .sl _ _ lo hi => .ok True [] (.u (.i .i64 ((hi - lo : Nat) : Int))) []
    | .map _ _, .u .nm => .ok True [] (.u (.i .i64 0)) []
    | .map _ _, .h n => match σ n with
      | .map es => .ok True [(n, .map es)] (.u (.i .i64 es.length)) []
      | _ => .bad
    | _, _ => .bad
  | none => .bad

theorem op_len {P : Program} {o : Oper} {g : Operand → SV} {t : TypeId} {x : Operand} (ho : o.op = .call { callee := .builtin .len, args := #[x], argTypes := #[t] }) {σf : Nat → SObj} {ob : Prop} {rd : List (Nat × SObj)} {r : SV} {wr : List (Nat × SObj)}
    (he : evLen P σf t (g x) = .ok ob rd r wr) : OpR P o g rd r wr := by
  have hex : ∀ (ρ : Operand → Value) (w : World) (v : Value), (Builtin.len_ #[t] o.type #[ρ x]).run P w = .ok v w → (execOp ρ o).run P w = .ok (.value v) w := by
    intro ρ w v h
    simp [execOp, ho, resolve, invoke, builtin, h]
  unfold evLen at he
  split at he <;> try cases he
  rename_i ti ht
  split at he
  · rename_i l hk hx
    cases he
    refine OpR.pure fun β Φ ρ w hg => ⟨_, hex ρ w (.int .i64 l.length) ?_, V.mk_i _ _⟩
    rw [(hx ▸ hg x : V β Φ (.u (.s l)) (ρ x)).inv_s]
    have hsize : (⟨l.toArray⟩ : ByteArray).size = l.length := by simp [ByteArray.size]
    simp [Builtin.len_, run_underlying (str_of ht hk), goInt, hsize]
  · rename_i e els c hk hx
    cases he
    refine OpR.pure fun β Φ ρ w hg => ?_
    obtain ⟨sz, a, cap, f, hv, _⟩ := (hx ▸ hg x : V β Φ (.u (.fz els c)) (ρ x)).inv_fz
    refine ⟨_, hex ρ w (.int .i64 els.length) ?_, V.mk_i _ _⟩
    rw [hv]
    simp [Builtin.len_, run_underlying (slice_of ht hk), goInt]
  · rename_i e n hk hx
    split at he <;> cases he
    rename_i T s els hσ
    refine OpR.read fun w0 ω0 β Φ ω σ w ρ hR hg hrd => ?_
    obtain ⟨v, hβ, hO⟩ := hR.at_ (hrd n (.row T s els) (by simp))
    have hv := ((hx ▸ hg x : V β Φ (.h n) (ρ x)).inv_h).1
    rw [hβ] at hv
    have hv := (Option.some.inj hv).symm
    refine ⟨_, hex ρ w (.int .i64 els.length) ?_, V.mk_i _ _⟩
    rcases hO with ⟨a, rfl, rfl⟩ | ⟨b, cap, cs, rfl, _⟩
    · rw [hv]; simp [Builtin.len_, run_underlying (slice_of ht hk), goInt]
    · rw [hv]; simp [Builtin.len_, run_underlying (slice_of ht hk), goInt]
  · rename_i e n s lo hi hk hx
    cases he
    refine OpR.pure fun β Φ ρ w hg => ?_
    obtain ⟨a, a', l, c, hβ, hv, _⟩ := (hx ▸ hg x : V β Φ (.sl n s lo hi) (ρ x)).inv_sl
    refine ⟨_, hex ρ w (.int .i64 ((hi - lo : Nat) : Int)) ?_, V.mk_i _ _⟩
    rw [hv]
    simp [Builtin.len_, run_underlying (slice_of ht hk), goInt]
  · rename_i k e hk hx
    cases he
    refine OpR.pure fun β Φ ρ w hg => ⟨_, hex ρ w (.int .i64 0) ?_, V.mk_i _ _⟩
    rw [(hx ▸ hg x : V β Φ (.u .nm) (ρ x)).inv_nm]
    simp [Builtin.len_, run_underlying (map_of ht hk), goInt]
  · rename_i k e n hk hx
    split at he <;> cases he
    rename_i es hσ
    refine OpR.read fun w0 ω0 β Φ ω σ w ρ hR hg hrd => ?_
    obtain ⟨v, hβ, b, es', ck, rfl, hω, hh, hs, _⟩ := hR.at_ (hrd n (.map es) (by simp))
    have hv := ((hx ▸ hg x : V β Φ (.h n) (ρ x)).inv_h).1
    rw [hβ] at hv
    have hv := (Option.some.inj hv).symm
    refine ⟨_, hex ρ w (.int .i64 es.length) ?_, V.mk_i _ _⟩
    rw [hv]
    simp [Builtin.len_, run_underlying (map_of ht hk), goInt, getObj, Sem.run, hh, hs]
  · cases he

/-! ### maps -/
def keyEq : PV → PV → Option Bool
  | .i k a, .i k' b => if k = k' then some (a == b) else none
  | .s a, .s b => some (a == b)
  | .b a, .b b => some (a == b)
  | _, _ => none

def keysOK (k : PV) (es : List (PV × PV)) : Prop := ∀ e ∈ es, (keyEq k e.1).isSome = true

def findPV (k : PV) : List (PV × PV) → Option PV
  | [] => none
  | e :: es => if keyEq k e.1 = some true then some e.2 else findPV k es

def updPV (k x : PV) : List (PV × PV) → List (PV × PV)
  | [] => [(k, x)]
  | e :: es => if keyEq k e.1 = some true then (k, x) :: es else e :: updPV k x es

def delPV (k : PV) : List (PV × PV) → List (PV × PV)
  | [] => []
  | e :: es => if keyEq k e.1 = some true then es else e :: delPV k es

def zeroPV (ti : TI) : PV := if ti.zagg then .agg ti.zero else ti.zero.headD .np

def keyKind (P : Program) (k : TypeId) (x : PV) : Bool :=
  match tiOf P k with
  | some ti => match ti.kind, x with
    | .int _, .i _ _ | .str, .s _ | .bool, .b _ => true
    | _, _ => false
  | none => false

theorem sameNow_ok {P : Program} {Φ : Fz} {kt : TypeId} {k k' : PV} {u v : Value} {d : TypeDesc} {b : Bool} (hk : keyKind P kt k = true) (hd : P.underlying kt = some d) (hu : VP Φ k u) (hv : VP Φ k' v) (hb : keyEq k k' = some b) :
    Instr.sameNow d u v = some b := by
  unfold keyKind at hk
  split at hk
  · rename_i ti ht
    split at hk
    · rename_i q a c hkind
      obtain rfl := Option.some.inj ((int_of ht hkind).symm.trans hd)
      cases hu
      cases k' <;> try (simp [keyEq] at hb; done)
      cases hv
      simp only [keyEq] at hb
      simpa [Instr.sameNow] using hb
    · rename_i a hkind
      obtain rfl := Option.some.inj ((str_of ht hkind).symm.trans hd)
      cases hu
      cases k' <;> try (simp [keyEq] at hb; done)
      cases hv
      simp only [keyEq] at hb
      simp only [Instr.sameNow]
      rw [beq_toListBytes, toList_mk, toList_mk]
      exact hb
    · rename_i a hkind
      obtain rfl := Option.some.inj ((bool_of ht hkind).symm.trans hd)
      cases hu
      cases k' <;> try (simp [keyEq] at hb; done)
      cases hv
      simp only [keyEq] at hb
      simpa [Instr.sameNow] using hb
    · cases hk
  · cases hk

/-- the place at which a key stands -/
def idxPV (k : PV) : List (PV × PV) → Option Nat
  | [] => none
  | e :: es => if keyEq k e.1 = some true then some 0 else (idxPV k es).map (· + 1)

theorem findPV_idx (k : PV) : ∀ es : List (PV × PV), findPV k es = (idxPV k es).bind fun i => (es[i]?).map (·.2)
  | [] => rfl
  | e :: es => by
    unfold findPV idxPV
    by_cases h : keyEq k e.1 = some true
    · simp [h]
    · simp only [if_neg h, findPV_idx k es]
      cases idxPV k es <;> simp

theorem updPV_idx (k x : PV) : ∀ es : List (PV × PV), updPV k x es = match idxPV k es with | some i => es.set i (k, x) | none => es ++ [(k, x)]
  | [] => rfl
  | e :: es => by
    unfold updPV idxPV
    by_cases h : keyEq k e.1 = some true
    · simp [h]
    · simp only [if_neg h, updPV_idx k x es]
      cases idxPV k es <;> simp

theorem idxPV_some {k : PV} : ∀ {es : List (PV × PV)} {i : Nat}, idxPV k es = some i → ∃ e, es[i]? = some e ∧ keyEq k e.1 = some true
  | e :: es, i, h => by
    unfold idxPV at h
    by_cases hk : keyEq k e.1 = some true
    · rw [if_pos hk] at h; cases h; exact ⟨e, rfl, hk⟩
    · rw [if_neg hk] at h
      obtain ⟨j, hj, rfl⟩ := Option.map_eq_some_iff.1 h
      obtain ⟨e', h1, h2⟩ := idxPV_some hj
      exact ⟨e', by simpa using h1, h2⟩

theorem findNow_ok {P : Program} {Φ : Fz} {kt : TypeId} {k : PV} {u : Value} {d : TypeDesc} (hk : keyKind P kt k = true) (hd : P.underlying kt = some d) (hu : VP Φ k u) :
    ∀ (es : List (PV × PV)) (es' : List MapEntry) (n : Nat), es'.length = es.length → (∀ (i : Nat) q x e, es[i]? = some (q, x) → es'[i]? = some e → VP Φ q e.key ∧ VP Φ x e.val) → keysOK k es →
      ∃ r, Instr.findNow d u es' n = some r ∧ match idxPV k es with | some i => ∃ e, es'[i]? = some e ∧ r = some (n + i, e.val) | none => r = none
  | [], es', n, hl, _, _ => by
    have : es' = [] := List.eq_nil_of_length_eq_zero (by simpa using hl)
    subst this
    exact ⟨none, rfl, rfl⟩
  | (q, x) :: es, es', n, hl, hall, hok => by
    obtain ⟨e, r, rfl⟩ : ∃ e r, es' = e :: r := by
      cases es' with
      | nil => simp at hl
      | cons e r => exact ⟨e, r, rfl⟩
    have h0 := hall 0 q x e rfl rfl
    obtain ⟨b, hb⟩ := Option.isSome_iff_exists.1 (hok (q, x) (by simp))
    have hs := sameNow_ok hk hd hu h0.1 hb
    unfold Instr.findNow
    rw [hs]
    cases b with
    | true =>
      refine ⟨some (n, e.val), rfl, ?_⟩
      simp only at hb
      simp [idxPV, hb]
    | false =>
      obtain ⟨r', h1, h2⟩ := findNow_ok hk hd hu es r (n + 1) (by simpa using hl) (fun i q x e h1 h2 => hall (i + 1) q x e (by simpa using h1) (by simpa using h2)) (fun e he => hok e (by simp [he]))
      refine ⟨r', h1, ?_⟩
      simp only at hb
      have hne : ¬ keyEq k q = some true := by rw [hb]; simp
      simp only [idxPV, if_neg hne]
      cases hi : idxPV k es with
      | none => rw [hi] at h2; simpa using h2
      | some i =>
        rw [hi] at h2
        obtain ⟨e', h3, h4⟩ := h2
        exact ⟨e', by simpa using h3, by rw [h4]; simp only [Option.some.injEq, Prod.mk.injEq, and_true]; omega⟩

theorem run_checkKey {P : Program} {kt : TypeId} {k : PV} {u : Value} {Φ : Fz} (hk : keyKind P kt k = true) (hu : VP Φ k u) (b : Bool) (n : Nat) (w : World) : (Instr.checkKey b (n + 1) kt u).run P w = .ok () w := by
  unfold keyKind at hk
  split at hk
  · rename_i ti ht
    split at hk
    · rename_i q a c hkind; cases hu; simp [Instr.checkKey, run_underlying (int_of ht hkind)]
    · rename_i a hkind; cases hu; simp [Instr.checkKey, run_underlying (str_of ht hkind)]
    · rename_i a hkind; cases hu; simp [Instr.checkKey, run_underlying (bool_of ht hkind)]
    · cases hk
  · cases hk

theorem keyKind_under {P : Program} {kt : TypeId} {k : PV} (hk : keyKind P kt k = true) : ∃ d, P.underlying kt = some d := by
  unfold keyKind at hk
  split at hk
  · rename_i ti ht
    obtain ⟨i, d, z, _, h2, _⟩ := tiOf_inv ht
    exact ⟨d, h2⟩
  · cases hk

theorem run_findKey {P : Program} {Φ : Fz} {kt : TypeId} {k : PV} {u : Value} (hk : keyKind P kt k = true) (hu : VP Φ k u) {es : List (PV × PV)} {es' : List MapEntry} (hl : es'.length = es.length)
    (hall : ∀ (i : Nat) q x e, es[i]? = some (q, x) → es'[i]? = some e → VP Φ q e.key ∧ VP Φ x e.val) (hok : keysOK k es) (w : World) :
    ∃ r, (Instr.findKey kt u es').run P w = .ok r w ∧ match idxPV k es with | some i => ∃ e, es'[i]? = some e ∧ r = some (i, e.val) | none => r = none := by
  obtain ⟨d, hd⟩ := keyKind_under hk
  obtain ⟨r, h1, h2⟩ := findNow_ok hk hd hu es es' 0 hl hall hok
  refine ⟨r, by simp [Instr.findKey, run_underlying hd, h1], ?_⟩
  simpa using h2

theorem zeroPV_ok {P : Program} {t : TypeId} {ti : TI} (Φ : Fz) (h : tiOf P t = some ti) (h0 : ti.zagg = false → ti.zero ≠ []) : ∃ z, (∀ w, (zeroValue t).run P w = .ok z w) ∧ VP Φ (zeroPV ti) z := by
  obtain ⟨i, d, z, h1, h2, h3, h4, h5, h6, h7, h8⟩ := tiOf_inv h
  obtain ⟨hl, hj⟩ := pvs_ok (Φ := Φ) h4
  refine ⟨z, fun w => by simp [zeroValue, typeInfo, h1, h3], ?_⟩
  unfold zeroPV
  cases hz : ti.zagg with
  | true =>
    rw [hz] at h8
    cases z <;> try (simp [isAggV] at h8; done)
    rename_i cs
    have := VP.agg (Φ := Φ) ti.zero cs.toList (by simpa [Value.cells] using hl.symm) fun j x v hx hv => hj j x v hx (by simpa [Value.cells] using hv)
    simpa using this
  | false =>
    rw [hz] at h8
    have hzc : z.cells = #[z] := by cases z <;> first | rfl | (simp [isAggV] at h8)
    rw [hzc] at hj hl
    simp only [Bool.false_eq_true, if_false]
    cases hzz : ti.zero with
    | nil => exact absurd hzz (h0 hz)
    | cons p r => exact hj 0 p z (by rw [hzz]; rfl) rfl

/-! ### look-ups -/
def evLookup (P : Program) (σ : Nat → SObj) (t : TypeId) (m k : SV) (ok : Bool) : Ev :=
  match tiOf P t, k with
  | some ti, .u kp => match ti.kind with
    | .map kt et => match tiOf P et with
      | some eti => match m with
        | .h n => match σ n with
          | .map es => .ok (keyKind P kt kp = true ∧ keysOK kp es ∧ (eti.zagg = false → eti.zero ≠ [])) [(n, .map es)]
              (if ok then .tup [.u ((findPV kp es).getD (zeroPV eti)), .u (.b (findPV kp es).isSome)] else .u ((findPV kp es).getD (zeroPV eti))) []
          | _ => .bad
        | _ => .bad
      | none => .bad
    | _ => .bad
  | _, _ => .bad

theorem op_lookup {P : Program} {o : Oper} {g : Operand → SV} {t : TypeId} {x y : Operand} {c : Bool} (ho : o.op = .lookup t x y c) {σf : Nat → SObj} {ob : Prop} {rd : List (Nat × SObj)} {r : SV} {wr : List (Nat × SObj)}
    (he : evLookup P σf t (g x) (g y) c = .ok ob rd r wr) (hob : ob) : OpR P o g rd r wr := by
  unfold evLookup at he
  split at he <;> try cases he
  rename_i ti kp ht hky
  split at he <;> try cases he
  rename_i kt et hk
  split at he <;> try cases he
  rename_i eti het
  split at he <;> try cases he
  rename_i n hx
  split at he <;> try cases he
  rename_i es hσ
  obtain ⟨q1, q2, q3⟩ := hob
  refine OpR.read fun w0 ω0 β Φ ω σ w ρ hR hg hrd => ?_
  obtain ⟨v, hβ, b, es', ck, rfl, hω, hh, hs, hst, hall⟩ := hR.at_ (hrd n (.map es) (by simp))
  have hv := ((hx ▸ hg x : V β Φ (.h n) (ρ x)).inv_h).1
  rw [hβ] at hv
  have hv := (Option.some.inj hv).symm
  have hkv : VP Φ kp (ρ y) := by
    have := (hky ▸ hg y : V β Φ (.u kp) (ρ y))
    cases this; assumption
  obtain ⟨rr, hr1, hr2⟩ := run_findKey q1 hkv (es' := es'.toList) (by simpa using hs) (fun i q x e h1 h2 => hall i q x e h1 (by simpa using h2)) q2 w
  obtain ⟨z, hz1, hz2⟩ := zeroPV_ok Φ het q3
  have hck := run_checkKey q1 hkv es'.isEmpty 9999 w
  rw [findPV_idx]
  have fin : ∀ (u : Value) (b : Bool) (p : PV), VP Φ p u → (Instr.lookup t (ρ x) (ρ y) c).run P w = .ok (if c then .tuple #[u, .bool b] else u) w →
      ∃ v, (execOp ρ o).run P w = .ok (.value v) w ∧ V β Φ (if c = true then .tup [.u p, .u (.b b)] else .u p) v := by
    intro u b p hp hrun
    refine ⟨if c then .tuple #[u, .bool b] else u, by simp only [execOp, ho, Sem.run_bind, hrun, Result.andThen_ok, Sem.run_pure], ?_⟩
    cases c with
    | true =>
      refine .tup _ [u, .bool b] rfl fun j y v hy hv => ?_
      match j with
      | 0 => simp at hy hv; subst hy hv; exact .u _ _ hp
      | 1 => simp at hy hv; subst hy hv; exact V.mk_b _
      | j + 2 => simp at hy
    | false => exact .u _ _ hp
  cases hi : idxPV kp es with
  | none =>
    rw [hi] at hr2
    subst hr2
    refine fin z false (zeroPV eti) hz2 ?_
    simp only [Instr.lookup, Sem.run_bind, run_underlying (map_of ht hk), Result.andThen_ok, hv, getObj, Sem.run, hh, Sem.run_pure, hck, hr1, hz1]
  | some i =>
    rw [hi] at hr2
    obtain ⟨e, he1, rfl⟩ := hr2
    obtain ⟨q, hq, _⟩ := idxPV_some hi
    have hp := (hall i q.1 q.2 e hq (by simpa using he1)).2
    have hfin := fin e.val true q.2 hp (by
      simp only [Instr.lookup, Sem.run_bind, run_underlying (map_of ht hk), Result.andThen_ok, hv, getObj, Sem.run, hh, Sem.run_pure, hck, hr1])
    simpa [hq] using hfin

/-! ### stores into a map -/
def pvOf : SV → Option PV
  | .u x => some x
  | .agg cs => (pures cs).map .agg
  | _ => none

theorem pvOf_ok {β : List Value} {Φ : Fz} {x : SV} {p : PV} {v : Value} (h : pvOf x = some p) (hv : V β Φ x v) : VP Φ p v := by
  unfold pvOf at h
  split at h <;> try cases h
  · cases hv; assumption
  · rename_i cs
    obtain ⟨l, hl, rfl⟩ := Option.map_eq_some_iff.1 h
    obtain ⟨vs, rfl, hlen, hj⟩ := hv.inv_agg
    have e := pures_ok hl
    subst e
    refine .agg _ _ (by simpa using hlen) fun j y u hy hu => ?_
    have := hj j (.u y) u (by rw [List.getElem?_map, hy]; rfl) hu
    cases this; assumption

def evMapUpdate (P : Program) (σ : Nat → SObj) (t : TypeId) (m k x : SV) : Ev :=
  match tiOf P t, k, pvOf x with
  | some ti, .u kp, some xp => match ti.kind with
    | .map kt _ => match m with
      | .h n => match σ n with
        | .map es => .ok (keyKind P kt kp = true ∧ keysOK kp es) [(n, .map es)] .j [(n, .map (updPV kp xp es))]
        | _ => .bad
      | _ => .bad
    | _ => .bad
  | _, _, _ => .bad

theorem sameBits_key {P : Program} {Φ : Fz} {kt : TypeId} {k k' : PV} {u v : Value} (hk : keyKind P kt k = true) (hu : VP Φ k u) (hv : VP Φ k' v) (hb : keyEq k k' = some true) : v = u ∧ ∀ n, Instr.sameBits n v u = true := by
  unfold keyKind at hk
  split at hk
  · split at hk
    · cases hu
      cases k' <;> try (simp [keyEq] at hb; done)
      cases hv
      simp only [keyEq] at hb
      split at hb <;> simp at hb
      rename_i h1; subst h1 hb
      exact ⟨rfl, fun n => by cases n <;> simp [Instr.sameBits]⟩
    · cases hu
      cases k' <;> try (simp [keyEq] at hb; done)
      cases hv
      simp only [keyEq] at hb
      simp at hb; subst hb
      rename_i l _
      have he : ((⟨l.toArray⟩ : ByteArray) == ⟨l.toArray⟩) = true := by rw [beq_toListBytes]; simp
      exact ⟨rfl, fun n => by cases n <;> simp [Instr.sameBits, he]⟩
    · cases hu
      cases k' <;> try (simp [keyEq] at hb; done)
      cases hv
      simp only [keyEq] at hb
      simp at hb; subst hb
      exact ⟨rfl, fun n => by cases n <;> simp [Instr.sameBits]⟩
    · cases hk
  · cases hk

theorem heap_setObj {w : World} {b : Nat} {o : Obj} (h : b < w.heap.size) : ({ w with heap := w.heap.setIfInBounds b o } : World).heap[b]? = some o ∧ ∀ k, k ≠ b → ({ w with heap := w.heap.setIfInBounds b o } : World).heap[k]? = w.heap[k]? := by
  constructor
  · simp [h]
  · intro k hk; simp [Ne.symm hk]

theorem op_mapUpdate {P : Program} {o : Oper} {g : Operand → SV} {t : TypeId} {x y z : Operand} (ho : o.op = .mapUpdate t x y z ∨ o.op = .insert t x y z) {σf : Nat → SObj} {ob : Prop} {rd : List (Nat × SObj)} {r : SV} {wr : List (Nat × SObj)}
    (he : evMapUpdate P σf t (g x) (g y) (g z) = .ok ob rd r wr) (hob : ob) : OpR P o g rd r wr := by
  unfold evMapUpdate at he
  split at he <;> try cases he
  rename_i ti kp xp ht hky hzp
  split at he <;> try cases he
  rename_i kt et hk
  split at he <;> try cases he
  rename_i n hx
  split at he <;> try cases he
  rename_i es hσ
  obtain ⟨q1, q2⟩ := hob
  intro w0 ω0 β Φ ω σ w ρ hR hg hrd
  have hn := hrd n (.map es) (by simp)
  obtain ⟨v, hβ, b, es', ck, rfl, hω, hh, hs, hst, hall⟩ := hR.at_ hn
  have hv := ((hx ▸ hg x : V β Φ (.h n) (ρ x)).inv_h).1
  rw [hβ] at hv
  have hv := (Option.some.inj hv).symm
  have hkv : VP Φ kp (ρ y) := by
    have := (hky ▸ hg y : V β Φ (.u kp) (ρ y))
    cases this; assumption
  have hzv : VP Φ xp (ρ z) := pvOf_ok hzp (hg z)
  obtain ⟨rr, hr1, hr2⟩ := run_findKey q1 hkv (es' := es'.toList) (by simpa using hs) (fun i q x e h1 h2 => hall i q x e h1 (by simpa using h2)) q2 w
  have hck := run_checkKey q1 hkv false 9999 w
  have hblt : b < w.heap.size := hR.lt b (by omega)
  have fin : ∀ (es2 : Array MapEntry) (ck2 : Nat), (Instr.mapUpdate t (ρ x) (ρ y) (ρ z)).run P w = .ok () { w with heap := w.heap.setIfInBounds b (.map es2 ck2) } →
      es2.size = (updPV kp xp es).length → Stamps es2 ck2 → (∀ (i : Nat) q x e, (updPV kp xp es)[i]? = some (q, x) → es2[i]? = some e → VP Φ q e.key ∧ VP Φ x e.val) →
      ∃ nx v w' β' Φ' ω', (execOp ρ o).run P w = .ok nx w' ∧ (nx = .value v ∨ nx = .skip ∧ v = undef) ∧ BExt β β' ∧ β'.length = β.length ∧ Φ.le Φ' ∧ V β' Φ' .j v ∧ Rep w0 ω0 β' (setAll σ [(n, .map (updPV kp xp es))]) Φ' ω' w' := by
    intro es2 ck2 h1 h2 h3 h4
    obtain ⟨k1, k2⟩ := heap_setObj (o := .map es2 ck2) hblt
    refine ⟨.skip, undef, { w with heap := w.heap.setIfInBounds b (.map es2 ck2) }, β, Φ, ω, ?_, .inr ⟨rfl, rfl⟩, BExt.refl _, rfl, Fz.le_refl _, .j _, ?_⟩
    · rcases ho with ho | ho <;> simp only [execOp, ho, Sem.run_bind, h1, Result.andThen_ok, Sem.run_pure]
    · exact hR.turn hn hβ hω rfl rfl rfl (by simp) k2 ⟨b, es2, ck2, rfl, hω, k1, h2, h3, h4⟩
  rw [updPV_idx] at fin
  rw [updPV_idx]
  cases hi : idxPV kp es with
  | none =>
    rw [hi] at hr2
    subst hr2
    rw [hi] at fin
    simp only at fin ⊢
    refine fin (es'.push { key := ρ y, val := ρ z, born := ck }) (ck + 1) ?_ (by simp [hs]) ?_ ?_
    · simp only [Instr.mapUpdate, Sem.run_bind, run_underlying (map_of ht hk), Result.andThen_ok, hv, getObj, Sem.run, hh, Sem.run_pure, hck, hr1, setObj]
    · refine ⟨fun e he => ?_, ?_⟩
      · simp at he
        rcases he with he | he
        · have := hst.1 e (by simpa using he); omega
        · subst he; simp
      · rw [Array.toList_push, List.map_append]
        refine List.nodup_append.2 ⟨hst.2, by simp, ?_⟩
        intro a ha b' hb'
        simp at hb'
        subst hb'
        obtain ⟨e, he, rfl⟩ := List.mem_map.1 ha
        have := hst.1 e he; omega
    · intro i q x e h1 h2
      rw [Array.getElem?_push] at h2
      by_cases hlt : i < es.length
      · rw [List.getElem?_append_left hlt] at h1
        rw [if_neg (by omega)] at h2
        exact hall i q x e h1 h2
      · have : i = es.length := by
          have := (List.getElem?_eq_some_iff.1 h1).1; simp at this; omega
        subst this
        rw [List.getElem?_append_right (by omega)] at h1
        simp at h1
        obtain ⟨rfl, rfl⟩ := h1
        rw [if_pos (by omega)] at h2
        cases h2
        exact ⟨hkv, hzv⟩
  | some i =>
    rw [hi] at hr2
    obtain ⟨e, he1, rfl⟩ := hr2
    obtain ⟨q, hq, hqe⟩ := idxPV_some hi
    have he1' : es'[i]? = some e := by simpa using he1
    have hp := (hall i q.1 q.2 e hq he1').1
    obtain ⟨hkey, hbits⟩ := sameBits_key q1 hkv hp hqe
    rw [hi] at fin
    simp only at fin ⊢
    have hilt : i < es.length := (List.getElem?_eq_some_iff.1 hq).1
    refine fin (es'.modify i fun e => { e with key := ρ y, val := ρ z }) ck ?_ (by simp [hs]) ?_ ?_
    · simp only [Instr.mapUpdate, Sem.run_bind, run_underlying (map_of ht hk), Result.andThen_ok, hv, getObj, Sem.run, hh, Sem.run_pure, hck, hr1, setObj, Instr.keyThatStays, he1', Option.map_some, Option.getD_some, hbits 10000, if_true]
    · have hmap : ((es'.modify i fun e => { e with key := ρ y, val := ρ z }).toList.map MapEntry.born) = es'.toList.map MapEntry.born := by
        apply List.ext_getElem?
        intro j
        simp only [List.getElem?_map, Array.getElem?_toList, Array.getElem?_modify]
        by_cases hj : i = j
        · subst hj; rw [if_pos rfl, he1']; rfl
        · rw [if_neg hj]
      refine ⟨fun e' he' => ?_, by rw [hmap]; exact hst.2⟩
      have : e'.born ∈ es'.toList.map MapEntry.born := by rw [← hmap]; exact List.mem_map.2 ⟨e', he', rfl⟩
      obtain ⟨e2, h1, h2⟩ := List.mem_map.1 this
      rw [← h2]; exact hst.1 e2 h1
    · intro j q' x' e' h1 h2
      rw [Array.getElem?_modify] at h2
      by_cases hj : i = j
      · subst hj
        rw [List.getElem?_set_self hilt] at h1
        rw [if_pos rfl, he1'] at h2
        cases h1; cases h2
        exact ⟨hkv, hzv⟩
      · rw [List.getElem?_set_ne hj] at h1
        rw [if_neg hj] at h2
        exact hall j q' x' e' h1 h2

theorem op_makeMap {P : Program} {o : Oper} {g : Operand → SV} {t : TypeId} (ho : o.op = .makeMap t none) (N : Nat) : OpR P o g [(N, .unborn)] (.h N) [(N, .map [])] := by
  intro w0 ω0 β Φ ω σ w ρ hR hg hrd
  obtain ⟨ω', h1, h2, h3, h4⟩ := hR.born (hrd N .unborn (by simp)) (.map #[] 0) (.map []) (.map (some w.heap.size)) fun ω' β' hω hext =>
    ⟨w.heap.size, #[], 0, rfl, hω, heap_alloc_new w _, rfl, ⟨by simp, by simp⟩, by simp⟩
  refine ⟨.value (.map (some w.heap.size)), _, w.alloc (.map #[] 0), _, Φ, ω', ?_, .inl rfl, h1, h2, Fz.le_refl _, .h N _ h3 rfl, h4⟩
  simp [execOp, ho, Instr.makeMap]

/-! ### functions -/
def evFunc (fn : Fn) (first caps : List SV) : Option SV :=
  match fn, first with
  | .func f, [] => match pures caps with
    | some l => some (.u (.fn f l))
    | none => some (.fn f caps)
  | .func f, first => match caps with
    | [] => some (.bm f first)
    | _ => none
  | _, _ => none

theorem op_makeFunc {P : Program} {o : Oper} {g : Operand → SV} {fn : Fn} {first caps : Array Operand} (ho : o.op = .makeFunc fn first caps) {r : SV} (he : evFunc fn (first.toList.map g) (caps.toList.map g) = some r) : OpR P o g [] r [] := by
  unfold evFunc at he
  split at he <;> try cases he
  · rename_i f hf
    have hfirst : first = #[] := by
      have : first.toList = [] := by simpa using hf
      simpa using this
    subst hfirst
    refine OpR.pure fun β Φ ρ w hg => ⟨.func (.func f) #[] (caps.toList.map ρ).toArray, by simp [execOp, ho, Instr.makeFunc, ← Array.toList_map], ?_⟩
    have hrel : ∀ (j : Nat) x (v : Value), (caps.toList.map g)[j]? = some x → (caps.toList.map ρ)[j]? = some v → V β Φ x v := by
      intro j x v hx hv
      rw [List.getElem?_map] at hx hv
      obtain ⟨p, hp, rfl⟩ := Option.map_eq_some_iff.1 hx
      rw [hp] at hv
      cases hv
      exact hg p
    split at he <;> cases he
    · rename_i l hl
      have e := pures_ok hl
      refine .u _ _ (.fn f l _ (by have := congrArg List.length e; simp at this; simp [this]) fun j x v hx hv => ?_)
      have := hrel j (.u x) v (by rw [e, List.getElem?_map, hx]; rfl) hv
      cases this; assumption
    · exact .fn f _ _ (by simp) hrel
  · rename_i f hne
    split at he <;> cases he
    rename_i hcp
    have hcaps : caps = #[] := by
      have : caps.toList = [] := by simpa using hcp
      simpa using this
    subst hcaps
    refine OpR.pure fun β Φ ρ w hg => ⟨.func (.func f) (first.toList.map ρ).toArray #[], by simp [execOp, ho, Instr.makeFunc, ← Array.toList_map], .bm f _ _ (by simp) fun j x v hx hv => ?_⟩
    rw [List.getElem?_map] at hx hv
    obtain ⟨p, hp, rfl⟩ := Option.map_eq_some_iff.1 hx
    rw [hp] at hv
    cases hv
    exact hg p
end Go.Nm
