/- Slice literals and conversions, by names. -/
import Derived.Test.YteoihmgigmiajaaNm11
set_option linter.all false
set_option linter.unusedSimpArgs false
set_option linter.unusedVariables false
namespace Go.Nm

def idxOK (k : Nat) : List (Nat × SV) → Bool
  | [] => true
  | (i, _) :: r => i == k && idxOK (k + 1) r

def purEls : List (Nat × SV) → Option (List (List PV))
  | [] => some []
  | (_, x) :: r => match pures x.cells, purEls r with
    | some l, some ls => some (l :: ls)
    | _, _ => none

theorem purEls_ok : ∀ {xs : List (Nat × SV)} {els : List (List PV)}, purEls xs = some els → els.length = xs.length ∧ ∀ (i : Nat) x e, xs[i]? = some x → els[i]? = some e → x.2.cells = e.map .u
  | [], els, h => by cases h; simp
  | (k, x) :: xs, els, h => by
    unfold purEls at h
    split at h <;> cases h
    rename_i l ls h1 h2
    obtain ⟨a, b⟩ := purEls_ok h2
    refine ⟨by simp [a], fun i y e hy he => ?_⟩
    cases i with
    | zero => simp at hy he; subst hy he; exact pures_ok h1
    | succ i => exact b i y e (by simpa using hy) (by simpa using he)

def evBuildSlice (P : Program) (t : TypeId) (len : Nat) (xs : List (Nat × SV)) : Ev :=
  match tiOf P t with
  | some ti => match ti.kind with
    | .slice e => match tiOf P e, purEls xs with
      | some eti, some els => .ok (idxOK 0 xs = true ∧ xs.length = len ∧ 0 < eti.size ∧ eti.zero.length = eti.size ∧ len * eti.size ≤ 16777216 ∧ (∀ e ∈ els, e.length = eti.size) ∧ (∀ e ∈ els, ∀ p ∈ e, PV.one p = true)) [] (.u (.fz els (some len))) []
      | _, _ => .bad
    | _ => .bad
  | none => .bad

theorem fill_seq {β : List Value} {Φ : Fz} {size : Nat} (h0 : 0 < size) : ∀ (xs : List (Nat × SV)) (parts : List (Nat × Value)) (els : List (List PV)) (k : Nat) (cells : Array Value), parts.length = xs.length →
    (∀ (j : Nat) x v, xs[j]? = some x → parts[j]? = some v → x.1 = v.1 ∧ V β Φ x.2 v.2) → idxOK k xs = true → purEls xs = some els → (∀ e ∈ els, e.length = size) → (∀ e ∈ els, ∀ p ∈ e, PV.one p = true) → (k + xs.length) * size ≤ cells.size →
    ∃ cells', Instr.fill (fun i => some (i * size, size)) cells parts = some cells' ∧ cells'.size = cells.size ∧ (∀ m, m < k * size → cells'[m]? = cells[m]?) ∧
      ∀ (i : Nat) e (j : Nat) p u, els[i]? = some e → e[j]? = some p → cells'[(k + i) * size + j]? = some u → VP Φ p u
  | [], parts, els, k, cells, hl, _, _, h, _, _, _ => by
    have : parts = [] := List.eq_nil_of_length_eq_zero (by simpa using hl)
    subst this
    cases h
    exact ⟨cells, rfl, rfl, fun _ _ => rfl, by simp⟩
  | (i, x) :: xs, parts, els, k, cells, hl, hx, hi, h, hs, ho, hsz => by
    obtain ⟨⟨i', v⟩, parts', rfl⟩ : ∃ p r, parts = p :: r := by
      cases parts with
      | nil => simp at hl
      | cons p r => exact ⟨p, r, rfl⟩
    obtain ⟨hii, hv⟩ := hx 0 (i, x) (i', v) rfl rfl
    simp only at hii hv
    subst hii
    unfold idxOK at hi
    simp only [Bool.and_eq_true, beq_iff_eq] at hi
    obtain ⟨rfl, hi⟩ := hi
    unfold purEls at h
    split at h <;> cases h
    rename_i l ls h1 h2
    have hcells := pures_ok h1
    have hl' : l.length = size := hs l (by simp)
    have hone : x.cells.all SV.one = true := by
      rw [hcells, List.all_map]
      refine List.all_eq_true.2 fun p hp => ?_
      have := ho l (by simp) p hp
      cases p <;> first | rfl | (simp [PV.one] at this)
    obtain ⟨d1, d2, d3⟩ := hv.cells hone
    have hvs : v.cells.size = size := by rw [d1, hcells]; simpa using hl'
    have hbound : i * size + size ≤ cells.size := by
      have : (i + 1) * size ≤ (i + ((i, x) :: xs).length) * size := Nat.mul_le_mul_right _ (by simp)
      rw [Nat.succ_mul] at this; omega
    have hcond : ¬ ((decide (v.cells.size ≠ size) || decide (i * size + v.cells.size > cells.size)) = true) := by
      simp only [Bool.or_eq_true, decide_eq_true_eq]; omega
    have hfold : v.cells.zipIdx.foldl (fun (cs : Array Value) (p : Value × Nat) => cs.setIfInBounds (i * size + p.2) p.1) cells = (v.cells.toList.zipIdx 0).foldl (fun (cs : Array Value) (p : Value × Nat) => cs.setIfInBounds (i * size + p.2) p.1) cells := by
      rw [← Array.foldl_toList, Array.toList_zipIdx]
    have hfill : Instr.fill (fun i => some (i * size, size)) cells ((i, v) :: parts') = Instr.fill (fun i => some (i * size, size)) ((v.cells.toList.zipIdx 0).foldl (fun (cs : Array Value) (p : Value × Nat) => cs.setIfInBounds (i * size + p.2) p.1) cells) parts' := by
      rw [← hfold]
      conv => lhs; unfold Instr.fill
      simp only
      rw [if_neg hcond]
    obtain ⟨cells', e1, e2, e3, e4⟩ := fill_seq h0 xs parts' ls (i + 1) ((v.cells.toList.zipIdx 0).foldl (fun (cs : Array Value) (p : Value × Nat) => cs.setIfInBounds (i * size + p.2) p.1) cells) (by simpa using hl)
      (fun j x v g1 g2 => hx (j + 1) x v (by simpa using g1) (by simpa using g2)) hi h2 (fun e he => hs e (by simp [he])) (fun e he => ho e (by simp [he])) (by rw [splice_size]; simp at hsz; rw [show i + 1 + xs.length = i + (xs.length + 1) by omega]; exact hsz)
    refine ⟨cells', by rw [hfill]; exact e1, by rw [e2, splice_size], fun m hm => ?_, fun i' e j p u g1 g2 g3 => ?_⟩
    · rw [e3 m (by rw [Nat.succ_mul]; omega), splice_get, if_neg (by omega)]
    · cases i' with
      | zero =>
        simp at g1; subst g1
        have hj := (List.getElem?_eq_some_iff.1 g2).1
        rw [Nat.add_zero, e3 _ (by rw [Nat.succ_mul]; omega), splice_get, if_pos (by simp; omega)] at g3
        have := d2 j (.u p) u (by rw [hcells, List.getElem?_map, g2]; rfl) (by rw [← g3]; simp)
        cases this; assumption
      | succ i' =>
        refine e4 i' e j p u (by simpa using g1) g2 ?_
        rw [← g3]; congr 1; rw [show i + 1 + i' = i + (i' + 1) by omega]

theorem op_buildSlice {P : Program} {o : Oper} {g : Operand → SV} {t : TypeId} {len : Nat} {parts : Array (Nat × Operand)} (ho : o.op = .buildSlice t len parts) {ob : Prop} {rd : List (Nat × SObj)} {r : SV} {wr : List (Nat × SObj)}
    (he : evBuildSlice P t len (parts.toList.map fun p => (p.1, g p.2)) = .ok ob rd r wr) (hob : ob) : OpR P o g rd r wr := by
  unfold evBuildSlice at he
  split at he <;> try cases he
  rename_i ti ht
  split at he <;> try cases he
  rename_i e hk
  have hu := slice_of ht hk
  split at he <;> try cases he
  rename_i eti els het hpur
  obtain ⟨q1, q2, q3, q4, q5, q6, q7⟩ := hob
  intro w0 ω0 β Φ ω σ w ρ hR hg hrd
  obtain ⟨it, d, z, h1, h2, h3, h4, h5, h6, h7, h8⟩ := tiOf_inv het
  have hzl : z.cells.size = eti.size := by have := (pvs_ok (Φ := Φ) h4).1; simp at this; omega
  have hrel : ∀ (j : Nat) x v, (parts.toList.map fun p => (p.1, g p.2))[j]? = some x → ((parts.map fun (i, x) => (i, ρ x)).toList)[j]? = some v → x.1 = v.1 ∧ V β Φ x.2 v.2 := by
    intro j x v hx hv
    rw [List.getElem?_map] at hx
    obtain ⟨p, hp, rfl⟩ := Option.map_eq_some_iff.1 hx
    rw [Array.toList_map, List.getElem?_map, hp] at hv
    cases hv
    exact ⟨rfl, hg _⟩
  let zz : Array Value := if len * eti.size = 0 then #[] else z.cells
  obtain ⟨cells', e1, e2, _, e4⟩ := fill_seq (β := β) (Φ := Φ) q3 _ _ els 0 ((Array.range (len * eti.size)).map (zz[· % zz.size]!)) (by simp) hrel q1 hpur q6 q7 (by rw [Array.size_map, Array.size_range, Nat.zero_add, q2]; exact Nat.le_refl _)
  have hlen : els.length = len := by have := (purEls_ok hpur).1; omega
  obtain ⟨Φ', ω', r1, r2, r3⟩ := hR.frost (.cells cells' e)
  refine ⟨_, .slice (some ⟨w.heap.size, 0, none⟩) len len, w.alloc (.cells cells' e), β, Φ', ω', ?_, .inl rfl, BExt.refl _, rfl, r1, ?_, r3⟩
  · have hlim : ¬ (16777216 < len * eti.size) := by omega
    simp only [execOp, ho, Instr.buildSlice, Sem.run_bind, run_underlying hu, Result.andThen_ok, run_sizeOf het, Sem.run_ite]
    rw [if_neg (by omega)]
    by_cases hz0 : len * eti.size = 0
    · simp only [hz0, if_true, Sem.run_pure, Result.andThen_ok]
      have e1' := e1
      simp only [zz, hz0, if_true] at e1'
      simp only [e1', Sem.run_pure, Result.andThen_ok, newRow, Sem.run_bind, run_newObj]
      rfl
    · simp only [hz0, if_false, Sem.run_bind, zeroValue, typeInfo, run_program, Result.andThen_ok, h1, Sem.run_pure, h3]
      have e1' := e1
      simp only [zz, hz0, if_false] at e1'
      simp only [e1', Sem.run_pure, Result.andThen_ok, newRow, Sem.run_bind, run_newObj]
      rfl
  · rw [← hlen]
    refine V.fz_new (sz := eti.size) r2 q6 (Nat.le_refl _) (by unfold maxLen; have := Nat.le_mul_of_pos_right len q3; omega) (by rw [e2, hlen]; simp) (fun i e j p u g1 g2 g3 => ?_) (fun k hk => by cases hk; rfl)
    have := e4 i e j p u g1 g2 (by simpa using g3)
    exact this.mono r1

/-! ### conversions -/
def byteOf : List PV → UInt8
  | [.i .u8 n] => UInt8.ofNat n.toNat
  | _ => 0
def bytesOf (els : List (List PV)) : List UInt8 := els.map byteOf

theorem bytesOf_bs (l : List UInt8) : bytesOf (bs l) = l := by
  unfold bytesOf bs
  rw [List.map_map]
  conv => rhs; rw [← List.map_id l]
  refine List.map_congr_left fun b _ => ?_
  simp [byteOf]

def isU8 (P : Program) (e : TypeId) : Bool :=
  match tiOf P e with
  | some ti => match ti.kind with | .int .u8 => true | _ => false
  | none => false

def evConvert (P : Program) (σ : Nat → SObj) (s d : TypeId) (x : SV) : Ev :=
  match tiOf P s, tiOf P d with
  | some sti, some dti => match sti.kind, dti.kind, x with
    | .int _, .int k, .u (.i _ n) => .ok True [] (.u (.i k (k.wrap n))) []
    | .str, .str, .u (.s l) => .ok True [] (.u (.s l)) []
    | .str, .slice e, .u (.s l) => .ok (isU8 P e = true ∧ l.length ≤ 9223372036854775807) [] (.u (.fz (bs l) none)) []
    | .slice e, .str, .u (.fz els _) => .ok (isU8 P e = true ∧ els = bs (bytesOf els)) [] (.u (.s (bytesOf els))) []
    | .slice e, .str, .h n => match σ n with
      | .row T s els => .ok (isU8 P e = true ∧ els = bs (bytesOf els)) [(n, .row T s els)] (.u (.s (bytesOf els))) []
      | _ => .bad
    | .slice e, .str, .sl n sz lo hi => match σ n with
      | .row T s els => .ok (isU8 P e = true ∧ (els.drop lo).take (hi - lo) = bs (bytesOf ((els.drop lo).take (hi - lo))) ∧ s = sz ∧ hi ≤ els.length) [(n, .row T s els)] (.u (.s (bytesOf ((els.drop lo).take (hi - lo))))) []
      | _ => .bad
    | _, _, _ => .bad
  | _, _ => .bad

theorem isU8_inv {P : Program} {e : TypeId} (h : isU8 P e = true) : P.underlying e = some (.int .u8) := by
  unfold isU8 at h
  split at h <;> try cases h
  rename_i ti ht
  split at h <;> try cases h
  rename_i hk
  exact int_of ht hk

theorem op_convert {P : Program} {o : Oper} {g : Operand → SV} {s d : TypeId} {x : Operand} (ho : o.op = .convert s d x) {σf : Nat → SObj} {ob : Prop} {rd : List (Nat × SObj)} {r : SV} {wr : List (Nat × SObj)}
    (he : evConvert P σf s d (g x) = .ok ob rd r wr) (hob : ob) : OpR P o g rd r wr := by
  have hex : ∀ (ρ : Operand → Value) (w w' : World) (v : Value), (convert s d (ρ x)).run P w = .ok v w' → (execOp ρ o).run P w = .ok (.value v) w' := by
    intro ρ w w' v h
    simp [execOp, ho, h]
  unfold evConvert at he
  split at he <;> try cases he
  rename_i sti dti hs hd
  have back : ∀ (e : TypeId) (els : List (List PV)) (rd : List (Nat × SObj)), sti.kind = .slice e → dti.kind = .str → isU8 P e = true → els = bs (bytesOf els) → srcOf σf (g x) = some (els, rd) → srcObs σf (g x) →
      (∀ (w0 : World) (ω0 : Nat → Nat) (β : List Value) (Φ : Fz) (ω : Nat → Nat) (σ : List SObj) (w : World) (ρ : Operand → Value), Rep w0 ω0 β σ Φ ω w → (∀ x, V β Φ (g x) (ρ x)) → (∀ n ob, (n, ob) ∈ rd → σ[n]? = some ob) → ∃ a cap, ρ x = .slice a els.length cap) →
      OpR P o g rd (.u (.s (bytesOf els))) [] := by
    intro e els rd hsk hdk q1 q2 hsrc hso hshape
    refine OpR.read fun w0 ω0 β Φ ω σ w ρ hR hg hrd => ?_
    have hsz : ∀ e ∈ els, e.length = 1 := by rw [q2]; simp [bs]
    have hone : ∀ e ∈ els, ∀ p ∈ e, PV.one p = true := by rw [q2]; simp [bs, PV.one]
    obtain ⟨news, k1, k2, k3, k4, k5⟩ := (src_ok (P := P) hR (hg x) hsrc hso hrd (by omega) hsz hone).ex
    have hlb : els.length = (bytesOf els).length := by simp [bytesOf]
    have hnews : news = ((bytesOf els).map fun b => (b.toNat : Int)).map (Value.int .u8) := by
      apply List.ext_getElem?
      intro j
      by_cases hj : j < els.length
      · have hnj : news[j]? = some (news[j]'(by omega)) := List.getElem?_eq_getElem (by omega)
        have hbj : (bytesOf els)[j]? = some ((bytesOf els)[j]'(by omega)) := List.getElem?_eq_getElem (by omega)
        have hej : els[j]? = some [.i .u8 ((bytesOf els)[j]'(by omega)).toNat] := by
          conv => lhs; rw [q2]
          simp only [bs, List.getElem?_map, hbj, Option.map_some]
        have := k4 j _ 0 _ (news[j]'(by omega)) hej rfl (by rw [Nat.mul_one, Nat.add_zero]; exact hnj)
        rw [hnj]
        simp only [List.getElem?_map, hbj, Option.map_some]
        generalize news[j]'(by omega) = q at this
        cases this
        rfl
      · rw [List.getElem?_eq_none (by omega), List.getElem?_eq_none (by simp; omega)]
    obtain ⟨a, cap, hsh⟩ := hshape w0 ω0 β Φ ω σ w ρ hR hg hrd
    refine ⟨_, hex ρ w w (.string ⟨(bytesOf els).toArray⟩) ?_, V.mk_s _⟩
    rw [hsh, run_convert_bytes_string w s d e a _ cap (slice_of hs hsk) (isU8_inv q1) (str_of hd hdk)]
    have h2 := k2 w rfl
    rw [hsh] at h2
    cases a with
    | none =>
      simp [Builtin.firstCells] at h2
      rw [h2] at k3
      have : els = [] := List.eq_nil_of_length_eq_zero (by simpa using k3.symm)
      subst this
      simp [Conv.bytesToString, bytesOf]
      rfl
    | some a =>
      simp only [Builtin.firstCells, Nat.mul_one] at h2
      rw [hnews] at h2
      rw [run_bytesToString w a els.length cap _ h2, foldl_push_byteCells]
      have he0 : ByteArray.empty.data = #[] := rfl
      rw [he0]
      simp
  split at he
  · rename_i q k qq n hsk hdk hx
    cases he
    refine OpR.pure fun β Φ ρ w hg => ⟨_, hex ρ w w (.int k (k.wrap n)) ?_, V.mk_i _ _⟩
    rw [(hx ▸ hg x : V β Φ (.u (.i qq n)) (ρ x)).inv_i]
    simp [convert, run_underlying (int_of hs hsk), run_underlying (int_of hd hdk), Conv.intToInt]
  · rename_i l hsk hdk hx
    cases he
    refine OpR.pure fun β Φ ρ w hg => ⟨_, hex ρ w w (.string ⟨l.toArray⟩) ?_, V.mk_s _⟩
    rw [(hx ▸ hg x : V β Φ (.u (.s l)) (ρ x)).inv_s]
    simp [convert, run_underlying (str_of hs hsk), run_underlying (str_of hd hdk)]
  · rename_i e l hsk hdk hx
    cases he
    obtain ⟨q1, q2⟩ := hob
    intro w0 ω0 β Φ ω σ w ρ hR hg hrd
    have hv := (hx ▸ hg x : V β Φ (.u (.s l)) (ρ x)).inv_s
    have hrun := run_bytes_of_string (P := P) w s d e ⟨l.toArray⟩ (str_of hs hsk) (slice_of hd hdk) (isU8_inv q1)
    have hsize : (⟨l.toArray⟩ : ByteArray).size = l.length := by simp [ByteArray.size]
    rw [hsize] at hrun
    have hge := grownCap_ge w l.length 0 e
    obtain ⟨Φ', ω', r1, r2, r3⟩ := hR.drew.frost (.cells (bytesRow ⟨l.toArray⟩ (grownCap w l.length 0 e)) e ((bytesRow ⟨l.toArray⟩ (grownCap w l.length 0 e)).size, (bytesRow ⟨l.toArray⟩ (grownCap w l.length 0 e)).size + 1))
    have hbl : (bs l).length = l.length := by simp [bs]
    refine ⟨_, _, _, β, Φ', ω', hex ρ w _ _ (by rw [hv]; exact hrun), .inl rfl, BExt.refl _, rfl, r1, ?_, r3⟩
    rw [show (SV.u (.fz (bs l) none)) = SV.u (.fz (bs l) none) from rfl, ← hbl]
    refine V.fz_new (sz := 1) r2 (by simp [bs]) (by rw [hbl]; exact hge) (by rw [hbl]; exact grownCap_le_maxLen w _ _ _ (by unfold maxLen; omega)) ?_ (fun i x' j p u h1 h2 h3 => ?_) (by simp)
    · rw [hbl]; simp [bytesRow, hsize]
    · simp only [bs, List.getElem?_map] at h1
      obtain ⟨b, hb, rfl⟩ := Option.map_eq_some_iff.1 h1
      cases j with
      | zero =>
        simp at h2; subst h2
        have hi := (List.getElem?_eq_some_iff.1 hb)
        obtain ⟨hi1, hi2⟩ := hi
        rw [Nat.mul_one, Nat.add_zero, bytesRow_at _ _ _ (by simpa using hi1)] at h3
        simp at h3
        rw [hi2] at h3
        subst h3
        exact .i _ _
      | succ j => simp at h2
  · rename_i e els c hsk hdk hx
    cases he
    refine back e els [] hsk hdk hob.1 hob.2 (by rw [hx]; rfl) (by rw [hx]; trivial) fun w0 ω0 β Φ ω σ w ρ hR hg hrd => ?_
    obtain ⟨sz, a, cap, f, h, _⟩ := (hx ▸ hg x : V β Φ (.u (.fz els c)) (ρ x)).inv_fz
    exact ⟨_, _, h⟩
  · rename_i e n hsk hdk hx
    split at he <;> cases he
    rename_i T sz els hσ
    refine back e els _ hsk hdk hob.1 hob.2 (by rw [hx]; simp [srcOf, hσ]) (by rw [hx]; trivial) fun w0 ω0 β Φ ω σ w ρ hR hg hrd => ?_
    obtain ⟨v', hβ, hO⟩ := hR.at_ (hrd n (.row T sz els) (by simp))
    have hv' := ((hx ▸ hg x : V β Φ (.h n) (ρ x)).inv_h).1
    rw [hβ] at hv'
    have hv' := (Option.some.inj hv').symm
    rcases hO with ⟨a, rfl, rfl⟩ | ⟨b, cap, cs, rfl, _⟩
    · exact ⟨_, _, hv'⟩
    · exact ⟨_, _, hv'⟩
  · rename_i e n sz lo top hsk hdk hx
    split at he <;> cases he
    rename_i T s els hσ
    obtain ⟨q1, q2, q3, q4⟩ := hob
    refine back e _ _ hsk hdk q1 q2 (by rw [hx]; simp [srcOf, hσ]) (by rw [hx]; simp only [srcObs, hσ]; exact ⟨q3, q4⟩) fun w0 ω0 β Φ ω σ w ρ hR hg hrd => ?_
    obtain ⟨a, a', l, c, hβ, hv, p1, p2, p3⟩ := (hx ▸ hg x : V β Φ (.sl n sz lo top) (ρ x)).inv_sl
    refine ⟨_, _, by rw [hv, show ((els.drop lo).take (top - lo)).length = top - lo by simp; omega]⟩
  · cases he
end Go.Nm
