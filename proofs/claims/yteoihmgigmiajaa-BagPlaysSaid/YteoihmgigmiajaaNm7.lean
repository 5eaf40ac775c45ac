/- Composite values, comparisons and arithmetic: what they do, by names. -/
import Derived.Test.YteoihmgigmiajaaNm6
set_option linter.all false
set_option linter.unusedSimpArgs false
set_option linter.unusedVariables false
namespace Go.Nm

/-! ### build -/
def plOf (P : Program) (t : TypeId) : Option (List (Nat × Nat)) :=
  match P.underlying t with
  | some (.struct fs) => fs.toList.mapM (fun f => (P.info? f.type).map fun i => (f.offset, i.size))
  | some (.array n e) => (P.info? e).map fun ie => (List.range n).map fun i => (i * ie.size, ie.size)
  | _ => none

def fillSV (pl : List (Nat × Nat)) (cs : List SV) : List (Nat × SV) → Option (List SV)
  | [] => some cs
  | (i, x) :: r => match pl[i]? with
    | some (off, size) => if x.cells.length = size ∧ off + size ≤ cs.length ∧ x.cells.all SV.one = true then fillSV pl (wrCells cs off x.cells) r else none
    | none => none

theorem splice_get (off : Nat) : ∀ (u : List Value) (k : Nat) (cells : Array Value) (m : Nat),
    ((u.zipIdx k).foldl (fun (cs : Array Value) (p : Value × Nat) => cs.setIfInBounds (off + p.2) p.1) cells)[m]? =
      if off + k ≤ m ∧ m < off + k + u.length ∧ m < cells.size then u[m - (off + k)]? else cells[m]?
  | [], k, cells, m => by
    rw [if_neg (by simp; omega)]; rfl
  | v :: u, k, cells, m => by
    simp only [List.zipIdx_cons, List.foldl_cons]
    rw [splice_get off u (k + 1) _ m]
    simp only [Array.size_setIfInBounds, List.length_cons, Array.getElem?_setIfInBounds]
    by_cases h1 : off + (k + 1) ≤ m ∧ m < off + (k + 1) + u.length ∧ m < cells.size
    · rw [if_pos h1, if_pos (by omega)]
      rw [show m - (off + k) = (m - (off + (k + 1))) + 1 by omega, List.getElem?_cons_succ]
    · rw [if_neg h1]
      by_cases h2 : off + k = m
      · subst h2
        by_cases h3 : off + k < cells.size
        · rw [if_pos rfl, if_pos h3, if_pos (by omega)]; simp
        · rw [if_pos rfl, if_neg h3, if_neg (by omega)]; exact (Array.getElem?_eq_none (by omega)).symm
      · rw [if_neg h2]
        by_cases h4 : off + k ≤ m ∧ m < off + k + (u.length + 1) ∧ m < cells.size
        · exfalso; omega
        · rw [if_neg h4]

theorem splice_size (off : Nat) : ∀ (u : List Value) (k : Nat) (cells : Array Value), ((u.zipIdx k).foldl (fun (cs : Array Value) (p : Value × Nat) => cs.setIfInBounds (off + p.2) p.1) cells).size = cells.size
  | [], k, cells => rfl
  | v :: u, k, cells => by simp only [List.zipIdx_cons, List.foldl_cons]; rw [splice_size off u (k + 1)]; simp

theorem fill_ok {β : List Value} {Φ : Fz} {pl : List (Nat × Nat)} {place : Nat → Option (Nat × Nat)} (hp : ∀ i q, pl[i]? = some q → place i = some q) :
    ∀ (xs : List (Nat × SV)) (parts : List (Nat × Value)) (cs cs' : List SV) (cells : Array Value), parts.length = xs.length →
      (∀ (j : Nat) x v, xs[j]? = some x → parts[j]? = some v → x.1 = v.1 ∧ V β Φ x.2 v.2) → cells.size = cs.length → (∀ (j : Nat) y u, cs[j]? = some y → cells[j]? = some u → V β Φ y u) →
      fillSV pl cs xs = some cs' → ∃ cells', Instr.fill place cells parts = some cells' ∧ cells'.size = cs'.length ∧ ∀ (j : Nat) y u, cs'[j]? = some y → cells'[j]? = some u → V β Φ y u
  | [], parts, cs, cs', cells, hl, _, hs, hj, h => by
    have : parts = [] := List.eq_nil_of_length_eq_zero (by simpa using hl)
    subst this
    cases h
    exact ⟨cells, rfl, hs, hj⟩
  | (i, x) :: xs, parts, cs, cs', cells, hl, hx, hs, hj, h => by
    obtain ⟨⟨i', v⟩, parts', rfl⟩ : ∃ p r, parts = p :: r := by
      cases parts with
      | nil => simp at hl
      | cons p r => exact ⟨p, r, rfl⟩
    obtain ⟨hii, hv⟩ := hx 0 (i, x) (i', v) rfl rfl
    simp only at hii hv
    subst hii
    unfold fillSV at h
    split at h
    · rename_i off size hpi
      split at h
      · rename_i hc
        obtain ⟨c1, c2, c3⟩ := hc
        obtain ⟨d1, d2, d3⟩ := hv.cells c3
        have hsz : v.cells.size = size := by omega
        have hcond : ¬ ((decide (v.cells.size ≠ size) || decide (off + v.cells.size > cells.size)) = true) := by
          simp only [Bool.or_eq_true, decide_eq_true_eq]; omega
        have hfold : v.cells.zipIdx.foldl (fun (cs : Array Value) (p : Value × Nat) => cs.setIfInBounds (off + p.2) p.1) cells = (v.cells.toList.zipIdx 0).foldl (fun (cs : Array Value) (p : Value × Nat) => cs.setIfInBounds (off + p.2) p.1) cells := by
          rw [← Array.foldl_toList, Array.toList_zipIdx]
        have hfill : Instr.fill place cells ((i, v) :: parts') = Instr.fill place ((v.cells.toList.zipIdx 0).foldl (fun (cs : Array Value) (p : Value × Nat) => cs.setIfInBounds (off + p.2) p.1) cells) parts' := by
          rw [← hfold]
          conv => lhs; unfold Instr.fill
          simp only [hp i (off, size) hpi]
          rw [if_neg hcond]
        rw [hfill]
        refine fill_ok hp xs parts' _ cs' _ (by simpa using hl) (fun j x v h1 h2 => hx (j + 1) x v (by simpa using h1) (by simpa using h2)) (by rw [splice_size, wr_length _ _ _ (by omega)]; exact hs) (fun j y u hy hu => ?_) h
        rw [wr_get _ _ _ (by omega)] at hy
        rw [splice_get] at hu
        by_cases hc' : off ≤ j ∧ j < off + x.cells.length
        · rw [if_pos hc'] at hy
          rw [if_pos (by simp; omega)] at hu
          exact d2 _ y u hy (by simpa using hu)
        · rw [if_neg hc'] at hy
          rw [if_neg (by simp; omega)] at hu
          exact hj j y u hy hu
      · cases h
    · cases h

def evBuild (P : Program) (t : TypeId) (xs : List (Nat × SV)) : Ev :=
  match tiOf P t, plOf P t with
  | some ti, some pl => match fillSV pl (ti.zero.map .u) xs with
    | some cs => .ok True [] (.agg cs) []
    | none => .bad
  | _, _ => .bad

theorem op_build {P : Program} {o : Oper} {g : Operand → SV} {t : TypeId} {parts : Array (Nat × Operand)} (ho : o.op = .build t parts) {ob : Prop} {rd : List (Nat × SObj)} {r : SV} {wr : List (Nat × SObj)}
    (he : evBuild P t (parts.toList.map fun p => (p.1, g p.2)) = .ok ob rd r wr) : OpR P o g rd r wr := by
  unfold evBuild at he
  split at he <;> try cases he
  rename_i ti pl ht hpl
  split at he <;> try cases he
  rename_i cs hf
  refine OpR.pure fun β Φ ρ w hg => ?_
  obtain ⟨it, d, z, h1, h2, h3, h4, h5, _⟩ := tiOf_inv ht
  obtain ⟨hl, hz⟩ := pvs_ok (Φ := Φ) h4
  have hbase : ∀ (j : Nat) y u, (ti.zero.map SV.u)[j]? = some y → z.cells[j]? = some u → V β Φ y u := fun j y u hy hu => by
    rw [List.getElem?_map] at hy
    obtain ⟨q, hq, rfl⟩ := Option.map_eq_some_iff.1 hy
    exact .u _ _ (hz j q u hq (by simpa using hu))
  have hrel : ∀ (j : Nat) x v, (parts.toList.map fun p => (p.1, g p.2))[j]? = some x → ((parts.map fun (i, x) => (i, ρ x)).toList)[j]? = some v → x.1 = v.1 ∧ V β Φ x.2 v.2 := by
    intro j x v hx hv
    rw [List.getElem?_map] at hx
    obtain ⟨p, hp, rfl⟩ := Option.map_eq_some_iff.1 hx
    rw [Array.toList_map, List.getElem?_map, hp] at hv
    cases hv
    exact ⟨rfl, hg _⟩
  have hrun : ∀ cells, P.built t (parts.map fun (i, x) => (i, ρ x)).toList = some cells → (execOp ρ o).run P w = .ok (.value (.agg cells)) w := by
    intro cells hc
    simp only [execOp, ho, Sem.run_bind, run_build w t _ cells hc, Result.andThen_ok, Sem.run_pure]
  have fin : ∀ cells' : Array Value, P.built t (parts.map fun (i, x) => (i, ρ x)).toList = some cells' → cells'.size = cs.length → (∀ (j : Nat) y u, cs[j]? = some y → cells'[j]? = some u → V β Φ y u) →
      ∃ v, (execOp ρ o).run P w = .ok (.value v) w ∧ V β Φ (.agg cs) v := by
    intro cells' hc hs hj
    refine ⟨_, hrun _ hc, ?_⟩
    have := V.agg (Φ := Φ) cs cells'.toList (by simpa using hs) fun j y u hy hu => hj j y u hy (by simpa using hu)
    simpa using this
  unfold plOf at hpl
  split at hpl
  · rename_i F hu
    obtain ⟨cells', e1, e2, e3⟩ := fill_ok (β := β) (Φ := Φ) (pl := pl) (place := (pl.toArray[·]?)) (fun i q hq => by simpa using hq) _ _ _ _ z.cells (by simp) hrel (by simp [hl]) hbase hf
    exact fin cells' (by simp only [Program.built, h1, hu, h3, hpl]; exact e1) e2 e3
  · rename_i n e hu
    obtain ⟨ie, hie, rfl⟩ := Option.map_eq_some_iff.1 hpl
    obtain ⟨cells', e1, e2, e3⟩ := fill_ok (β := β) (Φ := Φ) (place := fun i => some (i * ie.size, ie.size)) (fun i q hq => by
      rw [List.getElem?_map] at hq
      obtain ⟨k, hk, rfl⟩ := Option.map_eq_some_iff.1 hq
      have := (List.getElem?_eq_some_iff.1 hk)
      obtain ⟨hlt, he⟩ := this
      simp at he
      subst he
      rfl) _ _ _ _ z.cells (by simp) hrel (by simp [hl]) hbase hf
    exact fin cells' (by simp only [Program.built, h1, hu, h3, hie]; exact e1) e2 e3
  · cases hpl

/-! ### comparisons, arithmetic -/
def isNilPV : SV → Option Bool
  | .u .np | .u .nm | .u .nfn => some true
  | .p _ _ | .rp _ _ _ _ | .u (.fp _) | .fn _ _ | .u (.fn _ _) => some false
  | _ => none

/-- the kinds of a struct's fields, where its values may be compared cell by cell -/
def eqField (P : Program) (f : Field) : Option TK :=
  match P.underlying f.type, P.info? f.type with
  | some d, some i => if f.name ≠ "_" ∧ i.size = 1 then
      match d with
      | .bool => some .bool
      | .int k => some (.int k)
      | .string => some .str
      | _ => none
    else none
  | _, _ => none
def eqFrom (P : Program) : Nat → List Field → Option (List TK)
  | _, [] => some []
  | k, f :: r => match eqField P f, eqFrom P (k + 1) r with
    | some x, some l => if f.offset = k then some (x :: l) else none
    | _, _ => none
def eqKinds (P : Program) (t : TypeId) : Option (List TK) :=
  match P.underlying t with
  | some (.struct fs) => if P.stoodInHeld t = false ∧ P.eqGuardType P.depth t = false then eqFrom P 0 fs.toList else none
  | _ => none

def eqCells : List TK → List SV → List SV → Option Bool
  | [], [], [] => some true
  | .bool :: ks, .u (.b x) :: r, .u (.b y) :: s => match eqCells ks r s with | some q => some ((x == y) && q) | none => none
  | .int _ :: ks, .u (.i k x) :: r, .u (.i k' y) :: s => match eqCells ks r s with | some q => if k = k' then some ((x == y) && q) else none | none => none
  | .str :: ks, .u (.s x) :: r, .u (.s y) :: s => match eqCells ks r s with | some q => some ((x == y) && q) | none => none
  | _, _, _ => none

def evBin (P : Program) (t : TypeId) (op : BinOp) (x y : SV) : Ev :=
  match x, y with
  | .u (.i k a), .u (.i k' b) =>
    match op with
    | .shl => .ok (0 ≤ b) [] (.u (.i k (k.wrap (a * 2 ^ (min b.toNat k.bits))))) []
    | .shr => .ok (0 ≤ b) [] (.u (.i k (a.fdiv (2 ^ (min b.toNat k.bits))))) []
    | .add => .ok (k = k') [] (.u (.i k (k.wrap (a + b)))) []
    | .sub => .ok (k = k') [] (.u (.i k (k.wrap (a - b)))) []
    | .mul => .ok (k = k') [] (.u (.i k (k.wrap (a * b)))) []
    | .quo => .ok (k = k' ∧ b ≠ 0) [] (.u (.i k (k.wrap (a.tdiv b)))) []
    | .rem => .ok (k = k' ∧ b ≠ 0) [] (.u (.i k (a.tmod b))) []
    | .and => .ok (k = k') [] (.u (.i k (bits .and k a b))) []
    | .or => .ok (k = k') [] (.u (.i k (bits .or k a b))) []
    | .xor => .ok (k = k') [] (.u (.i k (bits .xor k a b))) []
    | .andNot => .bad
    | .eql => .ok (k = k') [] (.u (.b (a == b))) []
    | .neq => .ok (k = k') [] (.u (.b (a != b))) []
    | .lss => .ok (k = k') [] (.u (.b (decide (a < b)))) []
    | .leq => .ok (k = k') [] (.u (.b (decide (a ≤ b)))) []
    | .gtr => .ok (k = k') [] (.u (.b (decide (b < a)))) []
    | .geq => .ok (k = k') [] (.u (.b (decide (b ≤ a)))) []
  | .u (.s a), .u (.s b) =>
    match op with
    | .add => .ok (a.length + b.length ≤ 9223372036854775807) [] (.u (.s (a ++ b))) []
    | .eql => .ok True [] (.u (.b (a == b))) []
    | .neq => .ok True [] (.u (.b (!(a == b)))) []
    | .lss => .ok True [] (.u (.b (Op.bytesLess a b))) []
    | .leq => .ok True [] (.u (.b (Op.bytesLess a b || a == b))) []
    | .gtr => .ok True [] (.u (.b (!(Op.bytesLess a b || a == b)))) []
    | .geq => .ok True [] (.u (.b (!Op.bytesLess a b))) []
    | _ => .bad
  | .u (.b a), .u (.b b) =>
    match op, tiOf P t with
    | .eql, some ti => match ti.kind with | .bool => .ok True [] (.u (.b (a == b))) [] | _ => .bad
    | .neq, some ti => match ti.kind with | .bool => .ok True [] (.u (.b (!(a == b)))) [] | _ => .bad
    | _, _ => .bad
  | x, .u .np =>
    match op, tiOf P t, isNilPV x with
    | .eql, some ti, some b => match ti.kind, x with | .ptr _, .u .np | .ptr _, .p _ _ | .ptr _, .rp _ _ _ _ | .ptr _, .u (.fp _) => .ok True [] (.u (.b b)) [] | _, _ => .bad
    | .neq, some ti, some b => match ti.kind, x with | .ptr _, .u .np | .ptr _, .p _ _ | .ptr _, .rp _ _ _ _ | .ptr _, .u (.fp _) => .ok True [] (.u (.b (!b))) [] | _, _ => .bad
    | _, _, _ => .bad
  | x, y =>
    match op, eqKinds P t with
    | .eql, some ks => match eqCells ks x.cells y.cells with
      | some b => .ok (isAggSV x = true ∧ isAggSV y = true) [] (.u (.b b)) []
      | none => .bad
    | .neq, some ks => match eqCells ks x.cells y.cells with
      | some b => .ok (isAggSV x = true ∧ isAggSV y = true) [] (.u (.b (!b))) []
      | none => .bad
    | _, _ => .bad

theorem toList_mk (l : List UInt8) : (⟨l.toArray⟩ : ByteArray).toList = l := by rw [ByteArray.toList_eq]
theorem append_mk (a b : List UInt8) : (⟨a.toArray⟩ : ByteArray) ++ ⟨b.toArray⟩ = ⟨(a ++ b).toArray⟩ := by
  apply ByteArray.ext
  rw [ByteArray.data_append]
  simp

theorem eqField_inv {P : Program} {f : Field} {k : TK} (h : eqField P f = some k) : ∃ i, P.info? f.type = some i ∧ i.size = 1 ∧ f.name ≠ "_" ∧
    ((k = .bool ∧ P.underlying f.type = some .bool) ∨ (∃ q, k = .int q ∧ P.underlying f.type = some (.int q)) ∨ (k = .str ∧ P.underlying f.type = some .string)) := by
  unfold eqField at h
  split at h <;> try cases h
  rename_i d i hd hi
  split at h <;> try cases h
  rename_i hc
  refine ⟨i, hi, hc.2, hc.1, ?_⟩
  split at h <;> cases h
  · exact .inl ⟨rfl, hd⟩
  · exact .inr (.inl ⟨_, rfl, hd⟩)
  · exact .inr (.inr ⟨rfl, hd⟩)

theorem eqCells_ok {P : Program} {β : List Value} {Φ : Fz} (d : Nat) (w : World) : ∀ (fs : List Field) (k : Nat) (ks : List TK) (xs ys : List SV) (us vs : List Value) (b : Bool), eqFrom P k fs = some ks →
    eqCells ks xs ys = some b → us.length = k + xs.length → vs.length = k + ys.length →
    (∀ (j : Nat) y (u : Value), xs[j]? = some y → us[k + j]? = some u → V β Φ y u) → (∀ (j : Nat) y (u : Value), ys[j]? = some y → vs[k + j]? = some u → V β Φ y u) →
    (Op.eqFields (d + 1) us.toArray vs.toArray fs).run P w = .ok b w
  | [], k, ks, xs, ys, us, vs, b, he, h, hu, hv, h1, h2 => by
    cases he
    unfold eqCells at h
    split at h <;> try cases h
    · rfl
    all_goals (rename_i q; cases q)
  | f :: fs, k, ks, xs, ys, us, vs, b, he, h, hu, hv, h1, h2 => by
    unfold eqFrom at he
    split at he <;> try cases he
    rename_i x l hx hl
    split at he <;> try cases he
    rename_i hoff
    obtain ⟨i, hi, hsz, hname, hkind⟩ := eqField_inv hx
    have hagg : (isAgg f.type).run P w = .ok false w := by
      simp only [isAgg, Sem.run_bind]
      rcases hkind with ⟨_, hd⟩ | ⟨q, _, hd⟩ | ⟨_, hd⟩ <;> rw [run_underlying hd] <;> rfl
    have step : ∀ (x' y' : SV) (xs' ys' : List SV) (b1 q : Bool), xs = x' :: xs' → ys = y' :: ys' → eqCells l xs' ys' = some q → b = (b1 && q) →
        (∀ (U W : Value), V β Φ x' U → V β Φ y' W → (Op.equalIn (d + 1) f.type U W).run P w = .ok b1 w) → (Op.eqFields (d + 1) us.toArray vs.toArray (f :: fs)).run P w = .ok b w := by
      intro x' y' xs' ys' b1 q e1 e2 e3 e4 e5
      subst e1 e2 e4
      have hk : k < us.length := by simp at hu; omega
      have hk' : k < vs.length := by simp at hv; omega
      have heq := e5 us[k] vs[k] (h1 0 x' us[k] rfl (by simp [hk])) (h2 0 y' vs[k] rfl (by simp [hk']))
      have hp1 : (part f.type us.toArray f.offset).run P w = .ok us[k] w := by unfold part; simp [hagg, hoff, hk]
      have hp2 : (part f.type vs.toArray f.offset).run P w = .ok vs[k] w := by unfold part; simp [hagg, hoff, hk']
      have ih := eqCells_ok d w fs (k + 1) l xs' ys' us vs q hl e3 (by simp at hu; omega) (by simp at hv; omega)
        (fun j y u hy hu' => h1 (j + 1) y u (by simpa using hy) (by rw [show k + (j + 1) = k + 1 + j by omega]; exact hu')) (fun j y u hy hu' => h2 (j + 1) y u (by simpa using hy) (by rw [show k + (j + 1) = k + 1 + j by omega]; exact hu'))
      unfold Op.eqFields
      rw [if_pos hname]
      simp only [Sem.run_bind, hp1, hp2, heq, Result.andThen_ok, Sem.run_ite]
      cases b1
      · simp
      · simp [ih]
    unfold eqCells at h
    split at h <;> try cases h
    · rename_i e; cases e
    · rename_i e
      cases e
      split at h <;> cases h
      rename_i a r c s q hq
      refine step _ _ _ _ _ _ rfl rfl hq rfl fun U W hU hW => ?_
      rw [hU.inv_b, hW.inv_b]
      rcases hkind with ⟨_, hd⟩ | ⟨q, hk, hd⟩ | ⟨hk, hd⟩
      · exact run_equalIn_bool' w d _ _ _ hd
      · cases hk
      · cases hk
    · rename_i e
      cases e
      split at h <;> try cases h
      rename_i k1 a r k2 c s q hq
      split at h <;> cases h
      rename_i hkk
      subst hkk
      refine step _ _ _ _ _ _ rfl rfl hq rfl fun U W hU hW => ?_
      rw [hU.inv_i, hW.inv_i]
      rcases hkind with ⟨hk, hd⟩ | ⟨q, hk, hd⟩ | ⟨hk, hd⟩
      · cases hk
      · exact run_equalIn_int w d _ _ _ _ _ hd
      · cases hk
    · rename_i e
      cases e
      split at h <;> cases h
      rename_i hq
      refine step _ _ _ _ _ _ rfl rfl hq rfl fun U W hU hW => ?_
      rw [hU.inv_s, hW.inv_s]
      rcases hkind with ⟨hk, hd⟩ | ⟨q, hk, hd⟩ | ⟨_, hd⟩
      · cases hk
      · cases hk
      · rw [run_equalIn_string (P := P) w d f.type _ _ hd, toList_mk, toList_mk]

theorem eqCells_len : ∀ {ks : List TK} {xs ys : List SV} {b : Bool}, eqCells ks xs ys = some b → xs.length = ks.length ∧ ys.length = ks.length
  | ks, xs, ys, b, h => by
    unfold eqCells at h
    split at h <;> try cases h
    · exact ⟨rfl, rfl⟩
    · split at h <;> cases h
      rename_i hq
      have := eqCells_len hq; simp [this]
    · split at h <;> try cases h
      split at h <;> cases h
      rename_i hq _
      have := eqCells_len hq; simp [this]
    · split at h <;> cases h
      rename_i hq
      have := eqCells_len hq; simp [this]

theorem op_bin {P : Program} {o : Oper} {g : Operand → SV} {t t' : TypeId} {op : BinOp} {x y : Operand} (ho : o.op = .binOp op t x y t') {ob : Prop} {rd : List (Nat × SObj)} {r : SV} {wr : List (Nat × SObj)}
    (he : evBin P t op (g x) (g y) = .ok ob rd r wr) (hob : ob) : OpR P o g rd r wr := by
  have hex : ∀ (ρ : Operand → Value) (w : World) (v : Value), (eqGuard op t x y (ρ x) (ρ y)).run P w = .ok () w → (binOp op t (ρ x) (ρ y)).run P w = .ok v w → (execOp ρ o).run P w = .ok (.value v) w := by
    intro ρ w v h1 h2
    simp only [execOp, ho, Sem.run_bind, h1, h2, Result.andThen_ok, Sem.run_pure]
  unfold evBin at he
  split at he
  · rename_i k a k' b hx hy
    have key : ∀ r', k = k' → (∀ w, (binOp op t (.int k a) (.int k b)).run P w = .ok r' w) → ∀ s, (∀ β Φ, V β Φ s r') → OpR P o g [] s [] := by
      intro r' hk hr s hs
      subst hk
      refine OpR.pure fun β Φ ρ w hg => ⟨r', hex ρ w r' ?_ ?_, hs β Φ⟩
      · rw [(hx ▸ hg x : V β Φ (.u (.i k a)) (ρ x)).inv_i, eqGuard_at_int]; rfl
      · rw [(hx ▸ hg x : V β Φ (.u (.i k a)) (ρ x)).inv_i, (hy ▸ hg y : V β Φ (.u (.i k b)) (ρ y)).inv_i]; exact hr w
    have keyS : ∀ r', (∀ w, (binOp op t (.int k a) (.int k' b)).run P w = .ok r' w) → ∀ s, (∀ β Φ, V β Φ s r') → OpR P o g [] s [] := by
      intro r' hr s hs
      refine OpR.pure fun β Φ ρ w hg => ⟨r', hex ρ w r' ?_ ?_, hs β Φ⟩
      · rw [(hx ▸ hg x : V β Φ (.u (.i k a)) (ρ x)).inv_i, eqGuard_at_int]; rfl
      · rw [(hx ▸ hg x : V β Φ (.u (.i k a)) (ρ x)).inv_i, (hy ▸ hg y : V β Φ (.u (.i k' b)) (ρ y)).inv_i]; exact hr w
    split at he <;> cases he
    · exact keyS _ (fun w => by rw [binOp_shl]; simp [Op.shift, show ¬ b < 0 by omega]) _ fun _ _ => V.mk_i _ _
    · exact keyS _ (fun w => by rw [binOp_shr]; simp [Op.shift, show ¬ b < 0 by omega]) _ fun _ _ => V.mk_i _ _
    · exact key _ hob (fun w => by rw [binOp_add]; rfl) _ fun _ _ => V.mk_i _ _
    · exact key _ hob (fun w => by rw [binOp_sub]; rfl) _ fun _ _ => V.mk_i _ _
    · exact key _ hob (fun w => by rw [binOp_mul]; rfl) _ fun _ _ => V.mk_i _ _
    · exact key _ hob.1 (fun w => by rw [binOp_quo]; simp [Op.intDiv, hob.2]) _ fun _ _ => V.mk_i _ _
    · exact key _ hob.1 (fun w => by rw [binOp_rem]; simp [Op.intDiv, hob.2]) _ fun _ _ => V.mk_i _ _
    · exact key _ hob (fun w => by rw [binOp_and, intBits_and]; rfl) _ fun _ _ => V.mk_i _ _
    · exact key _ hob (fun w => by rw [binOp_or, intBits_or]; rfl) _ fun _ _ => V.mk_i _ _
    · exact key _ hob (fun w => by rw [binOp_xor, intBits_xor]; rfl) _ fun _ _ => V.mk_i _ _
    · exact key _ hob (fun w => by rw [binOp_eql]; rfl) _ fun _ _ => V.mk_b _
    · exact key _ hob (fun w => by rw [binOp_neq]; rfl) _ fun _ _ => V.mk_b _
    · exact key _ hob (fun w => by rw [binOp_lss]; rfl) _ fun _ _ => V.mk_b _
    · exact key _ hob (fun w => by rw [binOp_leq]; rfl) _ fun _ _ => V.mk_b _
    · exact key _ hob (fun w => by rw [binOp_gtr]; rfl) _ fun _ _ => V.mk_b _
    · exact key _ hob (fun w => by rw [binOp_geq]; rfl) _ fun _ _ => V.mk_b _
  · rename_i a b hx hy
    have key : ∀ r', (∀ w, (binOp op t (.string ⟨a.toArray⟩) (.string ⟨b.toArray⟩)).run P w = .ok r' w) → ∀ s, (∀ β Φ, V β Φ s r') → OpR P o g [] s [] := by
      intro r' hr s hs
      refine OpR.pure fun β Φ ρ w hg => ⟨r', hex ρ w r' ?_ ?_, hs β Φ⟩
      · rw [(hx ▸ hg x : V β Φ (.u (.s a)) (ρ x)).inv_s, eqGuard_at_string]; rfl
      · rw [(hx ▸ hg x : V β Φ (.u (.s a)) (ρ x)).inv_s, (hy ▸ hg y : V β Φ (.u (.s b)) (ρ y)).inv_s]; exact hr w
    split at he <;> cases he
    · refine key (.string ⟨(a ++ b).toArray⟩) (fun w => ?_) _ fun _ _ => V.mk_s _
      rw [binOp_string_add, run_string_add_sum (P := P) w _ _ (by simpa [ByteArray.size] using hob), append_mk]
    · exact key _ (fun w => by rw [binOp_string_eql, toList_mk, toList_mk]; rfl) _ fun _ _ => V.mk_b _
    · exact key _ (fun w => by rw [binOp_string_neq, toList_mk, toList_mk]; rfl) _ fun _ _ => V.mk_b _
    · exact key _ (fun w => by rw [binOp_string_lss, toList_mk, toList_mk]; rfl) _ fun _ _ => V.mk_b _
    · exact key _ (fun w => by rw [binOp_string_leq, toList_mk, toList_mk]; rfl) _ fun _ _ => V.mk_b _
    · exact key _ (fun w => by rw [binOp_string_gtr, toList_mk, toList_mk]; rfl) _ fun _ _ => V.mk_b _
    · exact key _ (fun w => by rw [binOp_string_geq, toList_mk, toList_mk]; rfl) _ fun _ _ => V.mk_b _
  · rename_i a b hx hy
    have key : ∀ r', (∀ w, (binOp op t (.bool a) (.bool b)).run P w = .ok r' w) → ∀ s, (∀ β Φ, V β Φ s r') → OpR P o g [] s [] := by
      intro r' hr s hs
      refine OpR.pure fun β Φ ρ w hg => ⟨r', hex ρ w r' ?_ ?_, hs β Φ⟩
      · rw [(hx ▸ hg x : V β Φ (.u (.b a)) (ρ x)).inv_b, eqGuard_at_bool]; rfl
      · rw [(hx ▸ hg x : V β Φ (.u (.b a)) (ρ x)).inv_b, (hy ▸ hg y : V β Φ (.u (.b b)) (ρ y)).inv_b]; exact hr w
    split at he <;> try cases he
    · rename_i ti ht
      split at he <;> cases he
      rename_i hk
      have hu := bool_of ht hk
      refine key _ (fun w => ?_) _ fun _ _ => V.mk_b _
      have := run_equalIn_bool' (P := P) w 9999 t a b hu
      simp [binOp, Op.equal, Op.maxDepth, this]
    · rename_i ti ht
      split at he <;> cases he
      rename_i hk
      have hu := bool_of ht hk
      refine key _ (fun w => ?_) _ fun _ _ => V.mk_b _
      have := run_equalIn_bool' (P := P) w 9999 t a b hu
      simp [binOp, Op.equal, Op.maxDepth, this]
  · rename_i hy
    have hyv : ∀ β Φ (ρ : Operand → Value), (∀ x, V β Φ (g x) (ρ x)) → ρ y = .pointer none := fun β Φ ρ hg => (hy ▸ hg y : V β Φ (.u .np) (ρ y)).inv_np
    have pt : ∀ β Φ (ρ : Operand → Value), (∀ x, V β Φ (g x) (ρ x)) → ∀ b, isNilPV (g x) = some b → (match g x with | .u .np | .p _ _ | .rp _ _ _ _ | .u (.fp _) => True | _ => False) → ∃ p, ρ x = .pointer p ∧ p.isNone = b := by
      intro β Φ ρ hg b hb hm
      have hv := hg x
      generalize g x = gx at *
      split at hm
      · cases hb; rw [hv.inv_np]; exact ⟨_, rfl, rfl⟩
      · cases hb; obtain ⟨a, _, h⟩ := hv.inv_p; exact ⟨_, h, rfl⟩
      · cases hb; obtain ⟨a, _, _, _, h⟩ := hv.inv_rp; exact ⟨_, h, rfl⟩
      · cases hb; obtain ⟨a, _, h, _⟩ := hv.inv_fp; exact ⟨_, h, rfl⟩
      · exact hm.elim
    have eqn0 : ∀ (d : Nat) (e : TypeId) (p : Option Addr) (w : World), P.underlying t = some (.pointer e) → (Op.equalIn (d + 1) t (.pointer p) (.pointer none)).run P w = .ok p.isNone w := by
      intro d e p w hu
      cases p <;> simp [Op.equalIn, run_underlying hu]
    have eqn : ∀ (e : TypeId) (p : Option Addr) (w : World), P.underlying t = some (.pointer e) → (Op.equalIn 10000 t (.pointer p) (.pointer none)).run P w = .ok p.isNone w := fun e p w hu => eqn0 9999 e p w hu
    split at he <;> try cases he
    · rename_i ti b ht hb
      have fin : ∀ e, ti.kind = .ptr e → (match g x with | .u .np | .p _ _ | .rp _ _ _ _ | .u (.fp _) => True | _ => False) → OpR P o g [] (.u (.b b)) [] := by
        intro e hk hm
        refine OpR.pure fun β Φ ρ w hg => ?_
        obtain ⟨p, hp, hb'⟩ := pt β Φ ρ hg b hb hm
        refine ⟨_, hex ρ w (.bool b) ?_ ?_, V.mk_b _⟩
        · rw [hp, eqGuard_at_pointer]; rfl
        · rw [hp, hyv β Φ ρ hg, ← hb']
          simp [binOp, Op.equal, Op.maxDepth, eqn e p w (ptr_of ht hk)]
      split at he <;> cases he
      all_goals (rename_i hx; exact fin _ (by assumption) (by rw [hx]; trivial))
    · rename_i ti b ht hb
      have fin : ∀ e, ti.kind = .ptr e → (match g x with | .u .np | .p _ _ | .rp _ _ _ _ | .u (.fp _) => True | _ => False) → OpR P o g [] (.u (.b (!b))) [] := by
        intro e hk hm
        refine OpR.pure fun β Φ ρ w hg => ?_
        obtain ⟨p, hp, hb'⟩ := pt β Φ ρ hg b hb hm
        refine ⟨_, hex ρ w (.bool (!b)) ?_ ?_, V.mk_b _⟩
        · rw [hp, eqGuard_at_pointer]; rfl
        · rw [hp, hyv β Φ ρ hg, ← hb']
          simp [binOp, Op.equal, Op.maxDepth, eqn e p w (ptr_of ht hk)]
      split at he <;> cases he
      all_goals (rename_i hx; exact fin _ (by assumption) (by rw [hx]; trivial))
  · have fin : ∀ ks b, eqKinds P t = some ks → eqCells ks (g x).cells (g y).cells = some b → isAggSV (g x) = true → isAggSV (g y) = true → ∀ (β : List Value) (Φ : Fz) (ρ : Operand → Value) (w : World), (∀ x, V β Φ (g x) (ρ x)) →
        ∃ us vs : List Value, ρ x = .agg us.toArray ∧ ρ y = .agg vs.toArray ∧ (eqGuard op t x y (ρ x) (ρ y)).run P w = .ok () w ∧ (Op.equalIn 10000 t (.agg us.toArray) (.agg vs.toArray)).run P w = .ok b w := by
      intro ks b hks hb hax hay β Φ ρ w hg
      obtain ⟨us, hus, hul, hu⟩ := (hg x).agg_cells hax
      obtain ⟨vs, hvs, hvl, hv⟩ := (hg y).agg_cells hay
      unfold eqKinds at hks
      split at hks <;> try cases hks
      rename_i F hF
      split at hks <;> try cases hks
      rename_i hc
      refine ⟨us, vs, hus, hvs, ?_, ?_⟩
      · rw [hus, hvs]; exact run_eqGuard_agg w op t x y _ _ hc.2
      · have hFo : P.fieldsOf t = F := by simp [Program.fieldsOf, hF]
        rw [run_equalIn_struct w 9999 t _ _ (by rw [hFo]; exact hF) hc.1, hFo]
        exact eqCells_ok (β := β) (Φ := Φ) 9998 w F.toList 0 ks _ _ us vs b hks hb (by omega) (by omega) (fun j y u h1 h2 => hu j y u h1 (by simpa using h2)) (fun j y u h1 h2 => hv j y u h1 (by simpa using h2))
    split at he <;> try cases he
    · rename_i ks hks
      split at he <;> cases he
      rename_i b hb
      refine OpR.pure fun β Φ ρ w hg => ?_
      obtain ⟨us, vs, h1, h2, h3, h4⟩ := fin ks b hks hb hob.1 hob.2 β Φ ρ w hg
      refine ⟨_, hex ρ w (.bool b) h3 ?_, V.mk_b _⟩
      rw [h1, h2, run_eql_struct, h4]; rfl
    · rename_i ks hks
      split at he <;> cases he
      rename_i b hb
      refine OpR.pure fun β Φ ρ w hg => ?_
      obtain ⟨us, vs, h1, h2, h3, h4⟩ := fin ks b hks hb hob.1 hob.2 β Φ ρ w hg
      refine ⟨_, hex ρ w (.bool (!b)) h3 ?_, V.mk_b _⟩
      rw [h1, h2, run_neq_struct, h4]; rfl
end Go.Nm
