/- Calls that make new objects at names kept free; a row that is handed over for good. -/
import Derived.Test.YteoihmgigmiajaaNm26
set_option linter.all false
set_option linter.unusedSimpArgs false
set_option linter.unusedVariables false
namespace Go.Nm

theorem posOf_left {n : Nat} {a b : List (Option Nat)} (h : posOf n (a ++ b) = none) : posOf n a = none := by
  cases hp : posOf n a with
  | none => rfl
  | some k =>
    have h1 := posOf_some hp
    exact absurd (by rw [List.getElem?_append_left (List.getElem?_eq_some_iff.1 h1).1]; exact h1) (posOf_none h k)

theorem distinctS_left : ∀ {a b : List (Option Nat)}, distinctS (a ++ b) = true → distinctS a = true
  | [], b, _ => rfl
  | none :: a, b, h => by
    simp only [List.cons_append, distinctS] at h ⊢
    exact distinctS_left h
  | some n :: a, b, h => by
    simp only [List.cons_append, distinctS, Bool.and_eq_true, Option.isNone_iff_eq_none] at h ⊢
    exact ⟨posOf_left h.1, distinctS_left h.2⟩

/-- a call in a larger memory; its new objects get the names μ, that were kept free -/
theorem callT_frameN {P : Program} {f : FuncId} {args al : List SV} {σ σl τ : List SObj} {R : SV} (θ μ : List Nat) (hC : CallT P f al σl fun r σ' => r = R ∧ σ' = τ) (hd : distinctS ((θ ++ μ).map some) = true) (hlt : (θ ++ μ).all (fun n => decide (n < σ.length)) = true)
    (hμ : ∀ m ∈ μ, σ[m]? = some .unborn) (hτ : τ.length = (θ ++ μ).length) (ha : args.map (SV.mv fun k => posOf k (θ.map some)) = al) (hσ : mvs (θ.map some) σ = σl) :
    CallT P f args σ fun r σ' => r = R.mv (back (θ ++ μ) σ.length) ∧ σ' = setBack (SObj.mv (back (θ ++ μ) σ.length)) (θ ++ μ) τ σ := by
  subst ha hσ
  intro w0 ω0 β Φ ω w vs hR hl hv
  have hnd := distinctS_nodup hd
  have hθ : ∀ k ∈ θ ++ μ, k < σ.length := fun k hk => by simpa using List.all_eq_true.1 hlt k hk
  let src := θ.map some
  have hposθ : ∀ {n m : Nat}, src[m]? = some (some n) → posOf n src = some m := fun hm => posOf_at (distinctS_left (a := θ.map some) (b := μ.map some) (by rw [← List.map_append]; exact hd)) hm
  let fω : Nat → Nat := fun k => match k with
    | 0 => 0
    | 1 => 1
    | n + 2 => match posOf n src with | some m => m + 2 | none => 0
  have hRl : Rep w (fun b => fω (ω b)) (mvβ src β) (mvs src σ) Φ (fun b => fω (ω b)) w := by
    refine ⟨rfl, rfl, rfl, Nat.le_refl _, fun b _ h0 => ⟨rfl, h0⟩, fun b o hb => ?_, fun b hb => ?_, by simp [mvβ, mvs], fun m ob v hm hv' => ?_⟩
    · obtain ⟨h1, h2⟩ := hR.fz b o hb
      exact ⟨by simp only [h1]; rfl, h2⟩
    · refine hR.lt b fun e => hb ?_
      simp only [e]; rfl
    · rcases mvs_get hm with ⟨n, hn, rfl⟩ | rfl
      · rw [List.getD_eq_getElem?_getD]
        cases hσ : σ[n]? with
        | none => trivial
        | some ob =>
          obtain ⟨v', hv'', hO⟩ := hR.at_ hσ
          have := mvβ_get hn hv''
          rw [hv'] at this
          cases this
          exact hO.mv mv_rel fun b hb => by
            have hpn : posOf n src = some m := hposθ hn
            simp only [hb, fω]; rw [hpn]
      · trivial
  have hvl : ∀ (j : Nat) x v, (args.map (SV.mv fun k => posOf k src))[j]? = some x → vs[j]? = some v → V (mvβ src β) Φ x v := by
    intro j x v hx hvj
    rw [List.getElem?_map] at hx
    obtain ⟨y, hy, rfl⟩ := Option.map_eq_some_iff.1 hx
    exact (hv j y v hy hvj).mv mv_rel
  refine (hC w _ _ Φ _ w vs hRl (by simpa using hl) hvl).mono fun en w' ⟨r0, v, β', σ0, Φ', ω', he, hb, hle, hvr, hR', hlen, hQ1, hQ2⟩ => ?_
  subst hQ1 hQ2
  have hk : (θ ++ μ).length ≤ σ0.length := by omega
  have hkβ : (θ ++ μ).length ≤ β'.length := by rw [hR'.len]; exact hk
  let N := σ.length
  have hN : β.length = N := hR.len
  let β2 := setBack (fun v : Value => v) (θ ++ μ) β' β
  have hθβ : ∀ k ∈ θ ++ μ, k < β.length := fun k hk => by rw [hN]; exact hθ k hk
  have hbk : ∀ (i m : Nat) (u : Value), back (θ ++ μ) N i = some m → β'[i]? = some u → isRef u = true → β2[m]? = some u := by
    intro i m u hb' hu _
    unfold back at hb'
    split at hb'
    · have := setBack_at (fun v : Value => v) (θ ++ μ) β' β i m hnd hθβ hb' hkβ
      rw [show β2[m]? = _ from this, hu]; rfl
    · have hil := (List.getElem?_eq_some_iff.1 hu).1
      have := hR'.len
      omega
  have unb : ∀ n ∈ μ, ∀ u, β[n]? = some u → isRef u = false := by
    intro n hn u hu
    have := hR.obj n .unborn u (hμ n hn) hu
    simp only [O] at this
    subst this; rfl
  have hext : BExt β β2 := by
    intro n u hn hr
    have hnl := (List.getElem?_eq_some_iff.1 hn).1
    cases hp : posOf n src with
    | some i =>
      have hi := posOf_map_some hp
      have h1 : (mvβ src β)[i]? = some u := mvβ_get (posOf_some hp) hn
      have h2 := hb i u h1 hr
      have hi' : (θ ++ μ)[i]? = some n := by rw [List.getElem?_append_left (List.getElem?_eq_some_iff.1 hi).1]; exact hi
      have := setBack_at (fun v : Value => v) (θ ++ μ) β' β i n hnd hθβ hi' hkβ
      rw [show β2[n]? = _ from this, h2]; rfl
    | none =>
      have h1 := posOf_map_none hp
      have h2 : n ∉ μ := fun h => by rw [unb n h u hn] at hr; cases hr
      exact (setBack_old (fun v : Value => v) (θ ++ μ) β' β n hnl (by simp [h1, h2])).trans hn
  let ω2 : Nat → Nat := fun b => match ω' b with
    | 0 => if b < w.heap.size ∧ fω (ω b) = 0 then ω b else 0
    | 1 => 1
    | i + 2 => match back (θ ++ μ) N i with | some m => m + 2 | none => 0
  refine ⟨_, v, β2, _, Φ', ω2, he, hext, hle, hvr.mv hbk, ⟨hR'.os.trans hR.os, hR'.tape.trans hR.tape, hR'.output.trans hR.output, Nat.le_trans hR.size hR'.size, fun b hb0 h0 => ?_, fun b o hbo => ?_, fun b hb0 => ?_, ?_, fun m ob u hm hu => ?_⟩, ?_, rfl, rfl⟩
  · obtain ⟨h1, h2⟩ := hR.frame b hb0 h0
    have hz : fω (ω b) = 0 := by rw [h2]
    have hbl : b < w.heap.size := Nat.lt_of_lt_of_le hb0 hR.size
    obtain ⟨h3, h4⟩ := hR'.frame b hbl hz
    refine ⟨h3.trans h1, ?_⟩
    simp only [ω2, h4]
    rw [if_pos ⟨hbl, hz⟩]; exact h2
  · obtain ⟨h1, h2⟩ := hR'.fz b o hbo
    exact ⟨by simp only [ω2, h1], h2⟩
  · cases hw : ω' b with
    | zero =>
      simp only [ω2, hw] at hb0
      split at hb0
      · rename_i hc; exact Nat.lt_of_lt_of_le hc.1 hR'.size
      · exact absurd rfl hb0
    | succ k => exact hR'.lt b (by omega)
  · rw [setBack_length _ _ _ _ hkβ, setBack_length _ _ _ _ hk, hN, hR'.len]
  · have hmN : m < σ.length := by
      have := (List.getElem?_eq_some_iff.1 hm).1
      rw [setBack_length _ _ _ _ hk] at this
      omega
    by_cases hmem : m ∈ θ ++ μ
    · obtain ⟨i, hil, hie⟩ := List.getElem_of_mem hmem
      have hi : (θ ++ μ)[i]? = some m := by rw [List.getElem?_eq_getElem hil, hie]
      have h1 := setBack_at (SObj.mv (back (θ ++ μ) σ.length)) (θ ++ μ) σ0 σ i m hnd hθ hi hk
      have h2 := setBack_at (fun v : Value => v) (θ ++ μ) β' β i m hnd hθβ hi hkβ
      rw [h1] at hm
      rw [show β2[m]? = _ from h2] at hu
      obtain ⟨ob0, ho0, rfl⟩ := Option.map_eq_some_iff.1 hm
      obtain ⟨u0, hu0, rfl⟩ := Option.map_eq_some_iff.1 hu
      refine (hR'.obj i ob0 _ ho0 hu0).mv hbk fun b hb0 => ?_
      simp only [ω2, hb0, back]
      rw [if_pos hil, hi]
    · rw [setBack_old _ (θ ++ μ) σ0 σ m hmN hmem] at hm
      rw [show β2[m]? = _ from setBack_old (fun v : Value => v) (θ ++ μ) β' β m (by omega) hmem] at hu
      refine (hR.obj m ob u hm hu).mono hext hle fun b hb0 => ?_
      have hbl := hR.lt b (by omega)
      have hz : fω (ω b) = 0 := by
        have : posOf m src = none := by
          cases hp : posOf m src with
          | none => rfl
          | some k => exact absurd (List.mem_of_getElem? (posOf_map_some hp)) (fun h => hmem (by simp [h]))
        simp only [hb0, fω, this]
      obtain ⟨h3, h4⟩ := hR'.frame b hbl hz
      refine ⟨?_, h3⟩
      simp only [ω2, h4]
      rw [if_pos ⟨hbl, hz⟩]; exact hb0
  · rw [setBack_length _ _ _ _ hk]; omega

theorem rdOK_app {σ : List SObj} : ∀ {a b : List (Nat × SObj)}, rdOK σ (a ++ b) ↔ rdOK σ a ∧ rdOK σ b
  | [], b => by simp [rdOK]
  | (n, o) :: a, b => by simp only [List.cons_append, rdOK, rdOK_app (a := a), and_assoc]

theorem callD_N {P : Program} {f : FuncId} {al : List SV} {σl τ : List SObj} {R : SV} (θ : List Nat) (obs : List SObj) (μ : List Nat) {args : List SV} {R' : SV} {τ' : List SObj} (hC : CallT P f al σl fun r σ' => r = R ∧ σ' = τ)
    (hd : distinctS ((θ ++ μ).map some) = true) (ho : obs.length = θ.length) (hτ : τ.length = (θ ++ μ).length) (ha : args.map (SV.mv fun k => posOf k (θ.map some)) = al) (hσ : obs.map (SObj.mv fun k => posOf k (θ.map some)) = σl)
    (hR : ∀ N, R.mv (back (θ ++ μ) N) = R') (hS : ∀ N, τ.map (SObj.mv (back (θ ++ μ) N)) = τ') : CallD P f args (θ.zip obs ++ μ.map fun m => (m, .unborn)) R' ((θ ++ μ).zip τ') := by
  intro σ hrd
  obtain ⟨hrd1, hrd2⟩ := rdOK_app.1 hrd
  obtain ⟨h1, h2⟩ := rdOK_zip ho hrd1
  have hm : mvs (θ.map some) σ = σl := by
    rw [← hσ, ← h2]
    unfold mvs
    rw [List.map_map]; rfl
  have hμ : ∀ m ∈ μ, σ[m]? = some .unborn := fun m hm => rdOK_mem hrd2 m .unborn (List.mem_map.2 ⟨m, hm, rfl⟩)
  refine (callT_frameN (args := args) (σ := σ) θ μ hC hd (List.all_eq_true.2 fun n hn => ?_) hμ hτ ha hm).mono fun r σ' ⟨e1, e2⟩ => ?_
  · rcases List.mem_append.1 hn with h | h
    · simpa using h1 n h
    · simpa using (List.getElem?_eq_some_iff.1 (hμ n h)).1
  · refine ⟨e1.trans (hR _), ?_⟩
    rw [e2, setBack_setAll _ _ _ hτ, hS]

theorem callE_N {P : Program} {f : FuncId} {al : List SV} {σl τ : List SObj} {R : SV} {args : List SV} {R' : SV} {τ' : List SObj} {σ : List SObj} {K : List (Nat × SObj) → SV → List (Nat × SObj) → Prop} (θ : List Nat) (obs : List SObj) (μ : List Nat) (hC : CallT P f al σl fun r σ' => r = R ∧ σ' = τ)
    (hd : distinctS ((θ ++ μ).map some) = true) (ho : obs.length = θ.length) (hrd : rdOK σ (θ.zip obs ++ μ.map fun m => (m, .unborn))) (ha : args.map (SV.mv fun k => posOf k (θ.map some)) = al) (hσ : obs.map (SObj.mv fun k => posOf k (θ.map some)) = σl) (hτ : τ.length = (θ ++ μ).length)
    (hR : ∀ N, R.mv (back (θ ++ μ) N) = R') (hS : ∀ N, τ.map (SObj.mv (back (θ ++ μ) N)) = τ') (hK : K (θ.zip obs ++ μ.map fun m => (m, .unborn)) R' ((θ ++ μ).zip τ')) : CallE P f args σ K :=
  ⟨_, _, _, callD_N θ obs μ hC hd ho hτ ha hσ hR hS, hrd, hK⟩

/-! ### a row handed over for good -/
theorem Rep.freeze {w0 : World} {ω0 : Nat → Nat} {β : List Value} {σ : List SObj} {Φ : Fz} {ω : Nat → Nat} {w : World} (h6 : Rep w0 ω0 β σ Φ ω w) {n : Nat} {T : TypeId} {sz : Nat} {els : List (List PV)} (hσ : σ[n]? = some (.row T sz els)) :
    ∃ Φ' ω', Φ.le Φ' ∧ Rep w0 ω0 β (σ.set n .dead) Φ' ω' w ∧ ∀ v, β[n]? = some v → VP Φ' (.fz els none) v := by
  let c : Cx := ⟨w0, ω0, β, Φ, 0⟩
  have hst : St c [] σ { tmps := #[], defers := [] } w := ⟨β, Φ, ω, BExt.refl _, Fz.le_refl _, rfl, rfl, fun t => .j _, h6⟩
  obtain ⟨v, hv, hO⟩ := h6.at_ hσ
  have key : ∀ (Φ' : Fz) (ω' : Nat → Nat), Φ.le Φ' → (∀ b o, Φ' b = some o → ω' b = 1 ∧ w.heap[b]? = some o) → (∀ b, ω b ≠ n + 2 → ω' b = ω b) → (∀ b, ω' b ≠ 0 → ω b ≠ 0) → VP Φ' (.fz els none) v →
      ∃ Φ' ω', Φ.le Φ' ∧ Rep w0 ω0 β (σ.set n .dead) Φ' ω' w ∧ ∀ v, β[n]? = some v → VP Φ' (.fz els none) v := by
    intro Φ' ω' hle hfz hω hlt hvp
    refine ⟨Φ', ω', hle, ⟨h6.os, h6.tape, h6.output, h6.size, fun b hb h0 => ?_, hfz, fun b hb => h6.lt b (hlt b hb), by simp [h6.len], fun m ob u hm hu => ?_⟩, fun u hu => by rw [hv] at hu; cases hu; exact hvp⟩
    · obtain ⟨k1, k2⟩ := h6.frame b hb h0
      exact ⟨k1, (hω b (by omega)).trans k2⟩
    · by_cases he : m = n
      · subst he
        rw [List.getElem?_set_self (List.getElem?_eq_some_iff.1 hσ).1] at hm
        cases hm; trivial
      · rw [List.getElem?_set_ne (fun h => he h.symm)] at hm
        exact (h6.obj m ob u hm hu).mono (BExt.refl _) hle fun b hb => ⟨by rw [hω b (by omega)]; exact hb, rfl⟩
  rcases hO with ⟨ad, rfl, rfl⟩ | ⟨b, cap, cs, rfl, hw, hc, hs', hl, hm, he, hj⟩
  · exact key Φ ω (Fz.le_refl _) h6.fz (fun _ _ => rfl) (fun _ h => h) (.fz 0 [] none ad 0 (fun _ _ => .bool false) (by simp) (by simp) (Nat.zero_le _) (by simp) (by simp) (by simp) (by simp))
  · have hΦb : Φ b = none := by
      cases hb : Φ b with
      | none => rfl
      | some o => have := (h6.fz b o hb).1; omega
    refine key (fun x => if x = b then some (.cells cs T (0, 0)) else Φ x) (fun x => if x = b then 1 else ω x) (fun x o hx => ?_) (fun x o hx => ?_) (fun x hx => ?_) (fun x hx => ?_)
      (.fz sz els none (some ⟨b, 0, none⟩) cap (fun i j => (cs[i * sz + j]?).getD (.bool false)) he hl hm (by simp) (fun _ => rfl) (fun i e j x ad hi hj' had => ?_) (fun i e j x hi hj' => ?_))
    · have : x ≠ b := by intro h; subst h; rw [hΦb] at hx; cases hx
      simp only [if_neg this]; exact hx
    · by_cases hxb : x = b
      · subst hxb
        simp only [if_true] at hx ⊢
        cases hx; exact ⟨trivial, hc⟩
      · simp only [if_neg hxb] at hx ⊢; exact h6.fz x o hx
    · have : x ≠ b := by intro h; subst h; exact hx hw
      simp only [if_neg this]
    · by_cases hxb : x = b
      · subst hxb; omega
      · simp only [if_neg hxb] at hx; exact hx
    · cases had
      have hin : i * sz + j < cs.size := by
        rw [hs']
        have hil := (List.getElem?_eq_some_iff.1 hi).1
        have hjl := (List.getElem?_eq_some_iff.1 hj').1
        have := he e (List.mem_of_getElem? hi)
        exact mul_lt_of (Nat.lt_of_lt_of_le hil hl) (by omega)
      have ea : (⟨b, 0, none⟩ : Addr).add (i * sz + j) = ⟨b, i * sz + j, none⟩ := by
        unfold Addr.add
        split
        · rename_i h; simp only [h]
        · simp
      rw [ea]
      simp [Fz.cell, hin]
    · have hin : i * sz + j < cs.size := by
        rw [hs']
        have hil := (List.getElem?_eq_some_iff.1 hi).1
        have hjl := (List.getElem?_eq_some_iff.1 hj').1
        have := he e (List.mem_of_getElem? hi)
        exact mul_lt_of (Nat.lt_of_lt_of_le hil hl) (by omega)
      have h := hj i e j x cs[i * sz + j] hi hj' (Array.getElem?_eq_getElem hin)
      simp only [Array.getElem?_eq_getElem hin, Option.getD_some]
      refine h.mono fun y o hy => ?_
      have : y ≠ b := by intro h; subst h; rw [hΦb] at hy; cases hy
      simp only [if_neg this]; exact hy

theorem Rep.row_sz {w0 : World} {ω0 : Nat → Nat} {β : List Value} {σ : List SObj} {Φ : Fz} {ω : Nat → Nat} {w : World} (h : Rep w0 ω0 β σ Φ ω w) {n : Nat} {T : TypeId} {sz : Nat} {els : List (List PV)} (hσ : σ[n]? = some (.row T sz els)) : ∀ e ∈ els, e.length = sz := by
  obtain ⟨v, _, hO⟩ := h.at_ hσ
  rcases hO with ⟨_, _, rfl⟩ | ⟨_, _, _, _, _, _, _, _, _, he, _⟩
  · simp
  · exact he

theorem callT_frz {P : Program} {f : FuncId} {args : List SV} {σ : List SObj} {K : SV → List SObj → Prop} (n : Nat) {T : TypeId} {sz : Nat} {els : List (List PV)} (hσ : σ[n]? = some (.row T sz els)) (h : CallT P f (args.map (SV.frz n sz els)) (σ.set n .dead) K) : CallT P f args σ K := by
  intro w0 ω0 β Φ ω w vs hR hl hv
  obtain ⟨Φ', ω', hle, hR', hvp⟩ := hR.freeze hσ
  refine (h w0 ω0 β Φ' ω' w vs hR' (by simpa using hl) fun j x v hx hv' => ?_).mono fun en w' ⟨r, v, β', σ', Φ'', ω'', h1, h2, h3, h4, h5, h6, h7⟩ => ⟨r, v, β', σ', Φ'', ω'', h1, h2, Fz.le_trans hle h3, h4, h5, by simpa using h6, h7⟩
  rw [List.getElem?_map] at hx
  obtain ⟨y, hy, rfl⟩ := Option.map_eq_some_iff.1 hx
  exact (hv j y v hy hv').frz hle hvp (hR.row_sz hσ)

theorem callD_frz {P : Program} {f : FuncId} {args : List SV} {rd : List (Nat × SObj)} {r : SV} {wr : List (Nat × SObj)} (n : Nat) {T : TypeId} {sz : Nat} {els : List (List PV)} (hn : ∀ p ∈ rd, p.1 ≠ n) (h : CallD P f (args.map (SV.frz n sz els)) rd r wr) : CallD P f args ((n, .row T sz els) :: rd) r ((n, .dead) :: wr) := by
  intro σ hrd
  refine callT_frz n hrd.1 ((h (σ.set n .dead) ?_).mono fun r' σ' ⟨h1, h2⟩ => ⟨h1, by rw [h2]; rfl⟩)
  have : ∀ {l : List (Nat × SObj)}, (∀ p ∈ l, p.1 ≠ n) → rdOK σ l → rdOK (σ.set n .dead) l := by
    intro l
    induction l with
    | nil => intro _ _; trivial
    | cons p l ih =>
      intro hl h
      exact ⟨by rw [List.getElem?_set_ne (fun e => hl p (by simp) e.symm)]; exact h.1, ih (fun q hq => hl q (by simp [hq])) h.2⟩
  exact this hn hrd.2

end Go.Nm
