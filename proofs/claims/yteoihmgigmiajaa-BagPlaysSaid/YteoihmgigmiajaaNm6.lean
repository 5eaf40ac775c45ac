/- Composites, addresses, slices of frozen rows, arithmetic: what they do, by names. -/
import Derived.Test.YteoihmgigmiajaaNm5
import Derived.Laws.Tables
import Derived.Laws.Cover1
import Derived.Laws.Concat
import Derived.Laws.Strings2
import Derived.Laws.Pointers
set_option linter.all false
set_option linter.unusedSimpArgs false
set_option linter.unusedVariables false
namespace Go.Nm

/-! ### fields -/
def evFieldAddr (P : Program) (t : TypeId) (f : Nat) (x : SV) : Ev :=
  match (tiOf P t) with
  | some ti => match ti.kind with
    | .struct fs => match fs[f]? with
      | some (off, ft) => match tiOf P ft with
        | some fti => match x with
          | .p n o => .ok (0 < fti.size) [] (.p n (o + off)) []
          | .rp n sz i o => .ok (0 < fti.size) [] (.rp n sz i (o + off)) []
          | .u (.fp cs) => .ok (0 < fti.size) [] (.u (.fp (cs.drop off))) []
          | _ => .bad
        | none => .bad
      | none => .bad
    | _ => .bad
  | none => .bad

theorem struct_of {P : Program} {t : TypeId} {ti : TI} {fs : List (Nat × TypeId)} (h : tiOf P t = some ti) (hk : ti.kind = .struct fs) : ∃ F : Array Field, P.underlying t = some (.struct F) ∧ fs = F.toList.map fun f => (f.offset, f.type) := by
  obtain ⟨i, d, z, _, h2, _, _, _, _, h7, _⟩ := tiOf_inv h
  rw [hk] at h7
  cases d <;> simp [tkOf] at h7
  exact ⟨_, h2, h7.symm⟩

theorem op_fieldAddr {P : Program} {o : Oper} {g : Operand → SV} {t : TypeId} {x : Operand} {f : Nat} (ho : o.op = .fieldAddr t x f) {ob : Prop} {rd : List (Nat × SObj)} {r : SV} {wr : List (Nat × SObj)}
    (he : evFieldAddr P t f (g x) = .ok ob rd r wr) (hob : ob) : OpR P o g rd r wr := by
  unfold evFieldAddr at he
  split at he <;> try cases he
  rename_i ti ht
  split at he <;> try cases he
  rename_i fs hk
  split at he <;> try cases he
  rename_i off ft hf
  split at he <;> try cases he
  rename_i fti hft
  obtain ⟨F, hu, hF⟩ := struct_of ht hk
  have hex : ∀ (ρ : Operand → Value) (a : Addr) (w : World), ρ x = .pointer (some a) → 0 < fti.size → (execOp ρ o).run P w = .ok (.value (.pointer (some (a.add off)))) w := by
    intro ρ a w h1 h2
    rw [hF, List.getElem?_map] at hf
    obtain ⟨fd, hfd, hfe⟩ := Option.map_eq_some_iff.1 hf
    cases hfe
    have hfd' : F[f]? = some fd := by simpa using hfd
    simp only [execOp, ho, Instr.fieldAt, h1, Instr.sureAddr, Sem.run_bind, run_underlying hu, Result.andThen_ok, hfd', Sem.run_pure, fieldPlace, run_sizeOf hft, Sem.run_ite]
    rw [if_neg (by omega)]
    rfl
  split at he
  · rename_i n o' hx
    cases he
    refine OpR.pure fun β Φ ρ w hg => ?_
    obtain ⟨a, ha, hv⟩ := (hx ▸ hg x : V β Φ (.p n o') (ρ x)).inv_p
    refine ⟨_, hex ρ _ w hv hob, ?_⟩
    rw [add_add]
    exact .p n (o' + off) a ha
  · rename_i n sz i o' hx
    cases he
    refine OpR.pure fun β Φ ρ w hg => ?_
    obtain ⟨a, l, c, ha, hv⟩ := (hx ▸ hg x : V β Φ (.rp n sz i o') (ρ x)).inv_rp
    refine ⟨_, hex ρ _ w hv hob, ?_⟩
    rw [add_add, Nat.add_assoc]
    exact .rp n sz i (o' + off) a l c ha
  · rename_i cs hx
    cases he
    refine OpR.pure fun β Φ ρ w hg => ?_
    obtain ⟨a, fv, hv, h1, h2⟩ := (hx ▸ hg x : V β Φ (.u (.fp cs)) (ρ x)).inv_fp
    refine ⟨_, hex ρ _ w hv hob, .u _ _ (.fp _ _ (fun j => fv (off + j)) (fun j y hy => ?_) fun j y hy => ?_)⟩
    · rw [add_add]; exact h1 _ y (by rwa [List.getElem?_drop] at hy)
    · exact h2 _ y (by rwa [List.getElem?_drop] at hy)
  · cases he

def isAggSV : SV → Bool
  | .agg _ | .u (.agg _) => true
  | _ => false

theorem V.agg_cells {β : List Value} {Φ : Fz} {x : SV} {v : Value} (h : V β Φ x v) (hx : isAggSV x = true) : ∃ vs : List Value, v = .agg vs.toArray ∧ vs.length = x.cells.length ∧ ∀ (j : Nat) y (u : Value), x.cells[j]? = some y → vs[j]? = some u → V β Φ y u := by
  cases x <;> try (simp [isAggSV] at hx; done)
  · rename_i p
    cases p <;> try (simp [isAggSV] at hx; done)
    obtain ⟨vs, rfl, hl, hj⟩ := h.inv_uagg
    refine ⟨vs, rfl, by simpa [SV.cells] using hl, fun j y u hy hu => ?_⟩
    simp only [SV.cells, List.getElem?_map] at hy
    obtain ⟨q, hq, rfl⟩ := Option.map_eq_some_iff.1 hy
    exact .u _ _ (hj j q u hq hu)
  · exact h.inv_agg

/-- a part of a composite -/
theorem run_part {P : Program} {t : TypeId} {ti : TI} (ht : tiOf P t = some ti) {β : List Value} {Φ : Fz} {cs : List SV} {vs : List Value} (hl : vs.length = cs.length) (hj : ∀ (j : Nat) y (u : Value), cs[j]? = some y → vs[j]? = some u → V β Φ y u)
    {off : Nat} (h0 : 0 < ti.size) (hoff : off + ti.size ≤ cs.length) (w : World) : ∃ v, (part t vs.toArray off).run P w = .ok v w ∧ V β Φ (rdCells ti cs off) v := by
  unfold part rdCells
  simp only [Sem.run_bind, run_isAgg ht, Result.andThen_ok]
  cases hk : ti.kind.agg with
  | true =>
    simp only [if_true, Sem.run_bind, run_sizeOf ht, Result.andThen_ok, Sem.run_pure]
    refine ⟨_, rfl, ?_⟩
    have e : (vs.toArray.extract off (off + ti.size)) = ((vs.drop off).take ti.size).toArray := by
      simp [List.take_drop]
    rw [e]
    refine .agg _ _ (by simp; omega) fun j y u hy hu => ?_
    have hlt : j < ti.size := by have := (List.getElem?_eq_some_iff.1 hy).1; simp at this; omega
    rw [List.getElem?_take, if_pos hlt, List.getElem?_drop] at hy hu
    exact hj _ y u hy hu
  | false =>
    have hlt : off < vs.length := by omega
    have hcs : cs[off]? = some (cs[off]'(by omega)) := List.getElem?_eq_getElem (by omega)
    have hvs : vs[off]? = some vs[off] := List.getElem?_eq_getElem hlt
    refine ⟨vs[off], by simp [hlt], ?_⟩
    rw [List.getD_eq_getElem?_getD, hcs]
    exact hj off _ _ hcs hvs

def evField (P : Program) (t : TypeId) (f : Nat) (x : SV) : Ev :=
  match tiOf P t with
  | some ti => match ti.kind with
    | .struct fs => match fs[f]? with
      | some (off, ft) => match tiOf P ft with
        | some fti => .ok (isAggSV x = true ∧ 0 < fti.size ∧ off + fti.size ≤ x.cells.length) [] (rdCells fti x.cells off) []
        | none => .bad
      | none => .bad
    | _ => .bad
  | none => .bad

theorem op_field {P : Program} {o : Oper} {g : Operand → SV} {t : TypeId} {x : Operand} {f : Nat} (ho : o.op = .field t x f) {ob : Prop} {rd : List (Nat × SObj)} {r : SV} {wr : List (Nat × SObj)}
    (he : evField P t f (g x) = .ok ob rd r wr) (hob : ob) : OpR P o g rd r wr := by
  unfold evField at he
  split at he <;> try cases he
  rename_i ti ht
  split at he <;> try cases he
  rename_i fs hk
  split at he <;> try cases he
  rename_i off ft hf
  split at he <;> try cases he
  rename_i fti hft
  obtain ⟨h1, h2, h3⟩ := hob
  obtain ⟨F, hu, hF⟩ := struct_of ht hk
  rw [hF, List.getElem?_map] at hf
  obtain ⟨fd, hfd, hfe⟩ := Option.map_eq_some_iff.1 hf
  cases hfe
  have hfd' : F[f]? = some fd := by simpa using hfd
  refine OpR.pure fun β Φ ρ w hg => ?_
  obtain ⟨vs, hv, hl, hj⟩ := (hg x).agg_cells h1
  obtain ⟨v, hr, hv'⟩ := run_part hft hl hj h2 h3 w
  refine ⟨v, ?_, hv'⟩
  simp only [execOp, ho, Instr.field, hv, asAgg, Sem.run_bind, run_underlying hu, Result.andThen_ok, hfd', Sem.run_pure, hr]

/-! ### indexes -/
def evIndexAddr (P : Program) (σ : Nat → SObj) (t : TypeId) (x i : SV) : Ev :=
  match tiOf P t, i with
  | some ti, .u (.i _ n) => match ti.kind with
    | .slice e => match tiOf P e with
      | some eti => match x with
        | .u (.fz els _) => .ok ((0 ≤ n ∧ n < els.length) ∧ (els.getD n.toNat []).length = eti.size ∧ 0 < eti.size) [] (.u (.fp (els.getD n.toNat []))) []
        | .h m => match σ m with
          | .row T s els => .ok ((0 ≤ n ∧ n < els.length) ∧ s = eti.size ∧ 0 < eti.size) [(m, .row T s els)] (.rp m s n.toNat 0) []
          | _ => .bad
        | .sl m s lo hi => .ok ((0 ≤ n ∧ (lo : Int) + n < hi) ∧ s = eti.size ∧ 0 < eti.size) [] (.rp m s (lo + n.toNat) 0) []
        | _ => .bad
      | none => .bad
    | .arr len e => match tiOf P e with
      | some eti => match x with
        | .p m off => .ok (0 ≤ n ∧ n < len) [] (.p m (off + n.toNat * eti.size)) []
        | .u (.fp cs) => .ok (0 ≤ n ∧ n < len) [] (.u (.fp (cs.drop (n.toNat * eti.size)))) []
        | _ => .bad
      | none => .bad
    | _ => .bad
  | _, _ => .bad

theorem slice_of {P : Program} {t e : TypeId} {ti : TI} (h : tiOf P t = some ti) (hk : ti.kind = .slice e) : P.underlying t = some (.slice e) := by
  obtain ⟨i, d, z, _, h2, _, _, _, _, h7, _⟩ := tiOf_inv h
  rw [hk] at h7
  cases d <;> simp [tkOf] at h7
  subst h7; exact h2
theorem arr_of {P : Program} {t e n : TypeId} {ti : TI} (h : tiOf P t = some ti) (hk : ti.kind = .arr n e) : P.underlying t = some (.array n e) := by
  obtain ⟨i, d, z, _, h2, _, _, _, _, h7, _⟩ := tiOf_inv h
  rw [hk] at h7
  cases d <;> simp [tkOf] at h7
  obtain ⟨rfl, rfl⟩ := h7; exact h2
theorem int_of {P : Program} {t : TypeId} {k : IntKind} {ti : TI} (h : tiOf P t = some ti) (hk : ti.kind = .int k) : P.underlying t = some (.int k) := by
  obtain ⟨i, d, z, _, h2, _, _, _, _, h7, _⟩ := tiOf_inv h
  rw [hk] at h7
  cases d <;> simp [tkOf] at h7
  subst h7; exact h2
theorem bool_of {P : Program} {t : TypeId} {ti : TI} (h : tiOf P t = some ti) (hk : ti.kind = .bool) : P.underlying t = some .bool := by
  obtain ⟨i, d, z, _, h2, _, _, _, _, h7, _⟩ := tiOf_inv h
  rw [hk] at h7
  cases d <;> simp [tkOf] at h7
  exact h2
theorem str_of {P : Program} {t : TypeId} {ti : TI} (h : tiOf P t = some ti) (hk : ti.kind = .str) : P.underlying t = some .string := by
  obtain ⟨i, d, z, _, h2, _, _, _, _, h7, _⟩ := tiOf_inv h
  rw [hk] at h7
  cases d <;> simp [tkOf] at h7
  exact h2
theorem ptr_of {P : Program} {t e : TypeId} {ti : TI} (h : tiOf P t = some ti) (hk : ti.kind = .ptr e) : P.underlying t = some (.pointer e) := by
  obtain ⟨i, d, z, _, h2, _, _, _, _, h7, _⟩ := tiOf_inv h
  rw [hk] at h7
  cases d <;> simp [tkOf] at h7
  subst h7; exact h2
theorem map_of {P : Program} {t k e : TypeId} {ti : TI} (h : tiOf P t = some ti) (hk : ti.kind = .map k e) : P.underlying t = some (.map k e) := by
  obtain ⟨i, d, z, _, h2, _, _, _, _, h7, _⟩ := tiOf_inv h
  rw [hk] at h7
  cases d <;> simp [tkOf] at h7
  obtain ⟨rfl, rfl⟩ := h7; exact h2
theorem func_of {P : Program} {t : TypeId} {ti : TI} (h : tiOf P t = some ti) (hk : ti.kind = .func) : ∃ a b c, P.underlying t = some (.func a b c) := by
  obtain ⟨i, d, z, _, h2, _, _, _, _, h7, _⟩ := tiOf_inv h
  rw [hk] at h7
  cases d <;> simp [tkOf] at h7
  exact ⟨_, _, _, h2⟩

theorem op_indexAddr {P : Program} {o : Oper} {g : Operand → SV} {t : TypeId} {x i : Operand} (ho : o.op = .indexAddr t x i) {σf : Nat → SObj} {ob : Prop} {rd : List (Nat × SObj)} {r : SV} {wr : List (Nat × SObj)}
    (he : evIndexAddr P σf t (g x) (g i) = .ok ob rd r wr) (hob : ob) : OpR P o g rd r wr := by
  unfold evIndexAddr at he
  split at he <;> try cases he
  rename_i ti k n ht hi
  split at he <;> try cases he
  · rename_i e hk
    have hu := slice_of ht hk
    split at he <;> try cases he
    rename_i eti hte
    have hex : ∀ (ρ : Operand → Value) (a : Addr) (len cap : Nat) (w : World), ρ x = .slice (some a) len cap → ρ i = .int k n → 0 ≤ n → n < len → (execOp ρ o).run P w = .ok (.value (.pointer (some (a.add (n.toNat * eti.size))))) w := by
      intro ρ a len cap w h1 h2 h3 h4
      simp [execOp, ho, Instr.indexAt, h1, h2, asIntOf, run_underlying hu, h3, h4, run_sizeOf hte]
    split at he
    · rename_i els c hx
      cases he
      obtain ⟨⟨h0, h1⟩, h2, h3⟩ := hob
      refine OpR.pure fun β Φ ρ w hg => ?_
      obtain ⟨sz, a, cap, f, hv, q1, q2, q3, q4, q5, q6, q7⟩ := (hx ▸ hg x : V β Φ (.u (.fz els c)) (ρ x)).inv_fz
      have hiv := (hi ▸ hg i : V β Φ (.u (.i k n)) (ρ i)).inv_i
      have hn : n.toNat < els.length := by omega
      obtain ⟨ad, rfl⟩ := Option.isSome_iff_exists.1 (q5 (by omega))
      have hel : els[n.toNat]? = some els[n.toNat] := List.getElem?_eq_getElem hn
      have hgd : els.getD n.toNat [] = els[n.toNat] := by rw [List.getD_eq_getElem?_getD, hel]; rfl
      rw [hgd] at h2 ⊢
      have hsz : sz = eti.size := by rw [← h2]; exact (q1 _ (List.getElem_mem hn)).symm
      subst hsz
      refine ⟨_, hex ρ ad _ cap w hv hiv h0 h1, .u _ _ (.fp _ _ (fun j => f n.toNat j) (fun j y hy => ?_) fun j y hy => ?_)⟩
      · rw [add_add]; exact q6 _ _ j y ad hel hy rfl
      · exact q7 _ _ j y hel hy
    · rename_i m hx
      split at he <;> try cases he
      rename_i T s els hσ
      obtain ⟨⟨h0, h1⟩, rfl, h3⟩ := hob
      refine OpR.read fun w0 ω0 β Φ ω σ w ρ hR hg hrd => ?_
      have hn : n.toNat < els.length := by omega
      obtain ⟨v, hβ, hO⟩ := hR.at_ (hrd m (.row T eti.size els) (by simp))
      rcases hO with ⟨_, _, rfl⟩ | ⟨b, cap, cs, rfl, _⟩
      · simp at hn
      have hiv := (hi ▸ hg i : V β Φ (.u (.i k n)) (ρ i)).inv_i
      have hv := ((hx ▸ hg x : V β Φ (.h m) (ρ x)).inv_h).1
      rw [hβ] at hv
      refine ⟨_, hex ρ _ _ cap w (Option.some.inj hv).symm hiv h0 h1, ?_⟩
      have := V.rp (Φ := Φ) m eti.size n.toNat 0 _ _ _ hβ
      simpa using this
    · rename_i m s lo top hx
      cases he
      obtain ⟨⟨h0, h1⟩, rfl, h3⟩ := hob
      refine OpR.pure fun β Φ ρ w hg => ?_
      obtain ⟨a, a', l, c, hβ, hv, q1, q2, q3⟩ := (hx ▸ hg x : V β Φ (.sl m eti.size lo top) (ρ x)).inv_sl
      have hiv := (hi ▸ hg i : V β Φ (.u (.i k n)) (ρ i)).inv_i
      refine ⟨_, hex ρ _ _ _ w hv hiv h0 (by omega), ?_⟩
      rw [q3 (by omega), add_add]
      have := V.rp (Φ := Φ) m eti.size (lo + n.toNat) 0 _ _ _ hβ
      rwa [Nat.add_zero, Nat.add_mul] at this
    · cases he
  · rename_i len e hk
    have hu := arr_of ht hk
    split at he <;> try cases he
    rename_i eti hte
    have hex : ∀ (ρ : Operand → Value) (a : Addr) (w : World), ρ x = .pointer (some a) → ρ i = .int k n → 0 ≤ n → n < len → (execOp ρ o).run P w = .ok (.value (.pointer (some (a.add (n.toNat * eti.size))))) w := by
      intro ρ a w h1 h2 h3 h4
      simp [execOp, ho, Instr.indexAt, h1, h2, asIntOf, run_underlying hu, h3, h4, run_sizeOf hte, Instr.sureAddr]
    split at he
    · rename_i m off hx
      cases he
      refine OpR.pure fun β Φ ρ w hg => ?_
      obtain ⟨a, ha, hv⟩ := (hx ▸ hg x : V β Φ (.p m off) (ρ x)).inv_p
      have hiv := (hi ▸ hg i : V β Φ (.u (.i k n)) (ρ i)).inv_i
      refine ⟨_, hex ρ _ w hv hiv hob.1 hob.2, ?_⟩
      rw [add_add]; exact .p m _ a ha
    · rename_i cs hx
      cases he
      refine OpR.pure fun β Φ ρ w hg => ?_
      obtain ⟨a, fv, hv, h1, h2⟩ := (hx ▸ hg x : V β Φ (.u (.fp cs)) (ρ x)).inv_fp
      have hiv := (hi ▸ hg i : V β Φ (.u (.i k n)) (ρ i)).inv_i
      refine ⟨_, hex ρ _ w hv hiv hob.1 hob.2, .u _ _ (.fp _ _ (fun j => fv (n.toNat * eti.size + j)) (fun j y hy => ?_) fun j y hy => ?_)⟩
      · rw [add_add]; exact h1 _ y (by rwa [List.getElem?_drop] at hy)
      · exact h2 _ y (by rwa [List.getElem?_drop] at hy)
    · cases he

/-- an element of a string, or of an array that is a value -/
def evIndex (P : Program) (t : TypeId) (x i : SV) : Ev :=
  match tiOf P t, i with
  | some ti, .u (.i _ n) => match ti.kind with
    | .str => match x with
      | .u (.s l) => .ok (0 ≤ n ∧ n < l.length) [] (.u (.i .u8 (l.getD n.toNat 0).toNat)) []
      | _ => .bad
    | .arr len e => match tiOf P e with
      | some eti => .ok (isAggSV x = true ∧ (0 ≤ n ∧ n < len) ∧ 0 < eti.size ∧ n.toNat * eti.size + eti.size ≤ x.cells.length) [] (rdCells eti x.cells (n.toNat * eti.size)) []
      | none => .bad
    | _ => .bad
  | _, _ => .bad

theorem op_index {P : Program} {o : Oper} {g : Operand → SV} {t : TypeId} {x i : Operand} (ho : o.op = .index t x i) {ob : Prop} {rd : List (Nat × SObj)} {r : SV} {wr : List (Nat × SObj)}
    (he : evIndex P t (g x) (g i) = .ok ob rd r wr) (hob : ob) : OpR P o g rd r wr := by
  unfold evIndex at he
  split at he <;> try cases he
  rename_i ti k n ht hi
  split at he <;> try cases he
  · rename_i hk
    have hu := str_of ht hk
    split at he <;> try cases he
    rename_i l hx
    obtain ⟨h0, h1⟩ := hob
    refine OpR.pure fun β Φ ρ w hg => ?_
    have hv := (hx ▸ hg x : V β Φ (.u (.s l)) (ρ x)).inv_s
    have hiv := (hi ▸ hg i : V β Φ (.u (.i k n)) (ρ i)).inv_i
    have hn : n.toNat < l.length := by omega
    refine ⟨_, ?_, V.mk_i _ _⟩
    have hb : (⟨l.toArray⟩ : ByteArray)[n.toNat]? = some (l[n.toNat]) := by
      rw [getElem?_pos (⟨l.toArray⟩ : ByteArray) n.toNat (by simpa [ByteArray.size] using hn)]
      rfl
    have hgd : l.getD n.toNat 0 = l[n.toNat] := by rw [List.getD_eq_getElem?_getD, List.getElem?_eq_getElem hn]; rfl
    rw [hgd]
    simp [execOp, ho, Instr.index, hv, hiv, asIntOf, run_underlying hu, h0, hb]
  · rename_i len e hk
    have hu := arr_of ht hk
    split at he <;> try cases he
    rename_i eti hte
    obtain ⟨h0, ⟨h1, h1'⟩, h2, h3⟩ := hob
    refine OpR.pure fun β Φ ρ w hg => ?_
    obtain ⟨vs, hv, hl, hj⟩ := (hg x).agg_cells h0
    have hiv := (hi ▸ hg i : V β Φ (.u (.i k n)) (ρ i)).inv_i
    obtain ⟨v, hr, hv'⟩ := run_part hte hl hj h2 h3 w
    refine ⟨v, ?_, hv'⟩
    simp [execOp, ho, Instr.index, hv, hiv, asIntOf, run_underlying hu, h1, h1', run_sizeOf hte, hr]

/-! ### nil checks -/
def evNil (x : SV) : Ev :=
  match x with
  | .p n o => .ok True [] (.p n o) []
  | .rp n s i o => .ok True [] (.rp n s i o) []
  | .u (.fp cs) => .ok True [] (.u (.fp cs)) []
  | .fn f cs => .ok True [] (.fn f cs) []
  | .u (.fn f cs) => .ok True [] (.u (.fn f cs)) []
  | _ => .bad

theorem op_nilCheck {P : Program} {o : Oper} {g : Operand → SV} {x : Operand} (ho : o.op = .nilCheck x) {ob : Prop} {rd : List (Nat × SObj)} {r : SV} {wr : List (Nat × SObj)}
    (he : evNil (g x) = .ok ob rd r wr) : OpR P o g rd r wr := by
  have key : ∀ y, g x = y → (∀ (β : List Value) (Φ : Fz) (v : Value) (w : World), V β Φ y v → (∃ a, v = .pointer (some a)) ∨ ∃ f cs, v = .func (.func f) #[] cs) → OpR P o g [] y [] := by
    intro y hy h
    refine OpR.pure fun β Φ ρ w hg => ?_
    have hv := hg x
    rw [hy] at hv
    refine ⟨ρ x, ?_, hv⟩
    rcases h β Φ (ρ x) w hv with ⟨a, ha⟩ | ⟨f, cs, ha⟩ <;> simp [execOp, ho, ha]
  unfold evNil at he
  split at he <;> cases he
  · rename_i hx; exact key _ hx fun β Φ v w h => .inl (by obtain ⟨a, _, rfl⟩ := h.inv_p; exact ⟨_, rfl⟩)
  · rename_i hx; exact key _ hx fun β Φ v w h => .inl (by obtain ⟨a, _, _, _, rfl⟩ := h.inv_rp; exact ⟨_, rfl⟩)
  · rename_i hx; exact key _ hx fun β Φ v w h => .inl (by obtain ⟨a, _, rfl, _⟩ := h.inv_fp; exact ⟨_, rfl⟩)
  · rename_i hx; exact key _ hx fun β Φ v w h => .inr (by obtain ⟨vs, rfl, _⟩ := h.inv_fn; exact ⟨_, _, rfl⟩)
  · rename_i hx; exact key _ hx fun β Φ v w h => .inr (by obtain ⟨vs, rfl, _⟩ := h.inv_ufn; exact ⟨_, _, rfl⟩)

/-! ### moves, parts of tuples, functions, maps -/
theorem op_move {P : Program} {o : Oper} {g : Operand → SV} {x : Operand} (ho : o.op = .move x ∨ o.op = .assign x) : OpR P o g [] (g x) [] := by
  refine OpR.pure fun β Φ ρ w hg => ⟨ρ x, ?_, hg x⟩
  rcases ho with ho | ho <;> simp [execOp, ho]

def SV.tupAt (x : SV) (i : Nat) : Option SV :=
  match x with
  | .tup vs => vs[i]?
  | .u (.tup vs) => (vs[i]?).map .u
  | _ => none

theorem op_extract {P : Program} {o : Oper} {g : Operand → SV} {x : Operand} {i : Nat} (ho : o.op = .extract x i) {r : SV} (he : (g x).tupAt i = some r) : OpR P o g [] r [] := by
  refine OpR.pure fun β Φ ρ w hg => ?_
  have hv := hg x
  unfold SV.tupAt at he
  split at he
  · rename_i vs hx
    rw [hx] at hv
    obtain ⟨us, hu, hl, hj⟩ := hv.inv_tup
    have hlt := (List.getElem?_eq_some_iff.1 he).1
    have hus : us[i]? = some (us[i]'(by omega)) := List.getElem?_eq_getElem (by omega)
    exact ⟨_, by simp [execOp, ho, Instr.extract, hu, hus], hj i r _ he hus⟩
  · rename_i vs hx
    rw [hx] at hv
    obtain ⟨y, hy, rfl⟩ := Option.map_eq_some_iff.1 he
    obtain ⟨us, hu, hl, hj⟩ := hv.inv_utup
    have hlt := (List.getElem?_eq_some_iff.1 hy).1
    have hus : us[i]? = some (us[i]'(by omega)) := List.getElem?_eq_getElem (by omega)
    exact ⟨_, by simp [execOp, ho, Instr.extract, hu, hus], .u _ _ (hj i y _ hy hus)⟩
  · cases he

theorem op_not {P : Program} {o : Oper} {g : Operand → SV} {t : TypeId} {x : Operand} {b : Bool} (ho : o.op = .unOp .not t x) (hx : g x = .u (.b b)) : OpR P o g [] (.u (.b (!b))) [] := by
  refine OpR.pure fun β Φ ρ w hg => ⟨_, ?_, V.mk_b _⟩
  have hv := (hx ▸ hg x : V β Φ (.u (.b b)) (ρ x)).inv_b
  simp [execOp, ho, hv, Op.unary]
end Go.Nm
