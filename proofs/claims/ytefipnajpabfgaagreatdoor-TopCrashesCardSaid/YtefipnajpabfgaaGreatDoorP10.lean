/- Part 10 of the proof: what functions of the program do, and plain facts on what they compute. -/
import Derived.Test.YtefipnajpabfgaaGreatDoorP9
import Derived.Test.YtefipnajpabfgaaGreatDoorP3
set_option linter.all false
set_option maxRecDepth 40000
set_option maxHeartbeats 16000000
set_option linter.unusedSimpArgs false
set_option linter.unusedVariables false
namespace Go.Proofs.YtefipnajpabfgaaGreatDoor
open Go.Nm Go.RowKit Go.Shelf Go.Lib

theorem setCells_kept (b : Nat) : ∀ (vs : List Value) (o : Nat) (w : World), (w.setCells b o vs).os = w.os ∧ (w.setCells b o vs).tape = w.tape ∧ (w.setCells b o vs).output = w.output ∧ (w.setCells b o vs).heap.size = w.heap.size ∧ ∀ k, k ≠ b → (w.setCells b o vs).heap[k]? = w.heap[k]?
 | [], _, _ => ⟨rfl, rfl, rfl, rfl, fun _ _ => rfl⟩
 | v :: r, o, w => by
  obtain ⟨h1, h2, h3, h4, h5⟩ := setCells_kept b r (o + 1) (w.setCell ⟨b, o, none⟩ v)
  rw [World.setCells]
  refine ⟨h1, h2, h3, ?_, fun k hk => ?_⟩
  ·rw [h4]; simp [World.setCell]
  ·rw [h5 k hk]
   simp only [World.setCell]
   rw [Array.getElem?_modify, if_neg (fun h => hk h.symm)]

/-- a row that nobody writes any more -/
theorem rep_frozeAt {w0 : World} {ω0 : Nat → Nat} {β : List Value} {σ : List SObj} {Φ : Fz} {ω : Nat → Nat} {w w' : World} (hR : Rep w0 ω0 β σ Φ ω w) {n : Nat} (hn : n < σ.length) {B : Nat} {o : Obj}
  (hos : w'.os = w.os) (ht : w'.tape = w.tape) (hu : w'.output = w.output) (hs : w.heap.size ≤ w'.heap.size) (hB : w'.heap[B]? = some o) (hown : ω B = n + 2 ∨ w.heap.size ≤ B) (hoth : ∀ k, k < w.heap.size → k ≠ B → w'.heap[k]? = w.heap[k]?) :
  Φ.le (fun x => if x = B then some o else Φ x) ∧ Rep w0 ω0 β (σ.set n .dead) (fun x => if x = B then some o else Φ x) (fun x => if x = B then 1 else ω x) w' := by
 have hBl : B < w'.heap.size := (Array.getElem?_eq_some_iff.1 hB).1
 have hne : ∀ b o', Φ b = some o' → b ≠ B := by
  rintro b o' h rfl
  have h1 := (hR.fz _ _ h).1
  rcases hown with h2 | h2
  ·omega
  ·have := hR.lt b (by omega); omega
 have hle : Φ.le (fun x => if x = B then some o else Φ x) := fun b o' h => by
  show (if b = B then some o else Φ b) = some o'
  rw [if_neg (hne b o' h)]; exact h
 have hnl : n < β.length := by rw [hR.len]; exact hn
 have hβ : β[n]? = some β[n] := List.getElem?_eq_getElem hnl
 have key := hR.upd (n := n) (ob' := .dead) (v' := β[n]) (w' := w') (ω' := fun x => if x = B then 1 else ω x) (Φ' := fun x => if x = B then some o else Φ x) hn hos ht hu hs
  (fun v hv _ => by rw [hβ] at hv; exact Option.some.inj hv)
  (fun b hb hw => by
   have hbB : b ≠ B := by
    rintro rfl
    rcases hown with h | h
    ·exact hw h
    ·omega
   exact ⟨hoth b hb hbB, if_neg hbB⟩)
  (fun b hb => by
   by_cases h : b = B
   ·rw [h]; exact hBl
   ·simp only [if_neg h] at hb
    exact Nat.lt_of_lt_of_le (hR.lt b hb) hs)
  hle
  (fun b o' h => by
   by_cases hb : b = B
   ·subst hb
    simp only [if_true] at h ⊢
    cases h
    exact ⟨trivial, hB⟩
   ·simp only [if_neg hb] at h ⊢
    have h1 := hR.fz b o' h
    exact ⟨h1.1, (hoth b (hR.lt b (by omega)) hb).trans h1.2⟩)
  trivial
 rw [set_same hβ] at key
 exact ⟨hle, key⟩

theorem flat_at {A : Type} {X Y Z : List A} {k m p : Nat} (hX : X.length = k) (hY : Y.length = m) : (X ++ Y ++ Z)[p]? = if p < k then X[p]? else if p < k + m then Y[p - k]? else Z[p - (k + m)]? := by
 by_cases h1 : p < k
 ·rw [if_pos h1, List.getElem?_append_left (by simp; omega), List.getElem?_append_left (by omega)]
 ·rw [if_neg h1]
  by_cases h2 : p < k + m
  ·rw [if_pos h2, List.getElem?_append_left (by simp; omega), List.getElem?_append_right (by omega), hX]
  ·rw [if_neg h2, List.getElem?_append_right (by simp; omega)]; congr 1; simp; omega

/-- an empty row cut from its head on: nobody reads what that gives -/
theorem wps_cut0 {P : Program} {c : Cx} {e : Env} {σ : List SObj} {Q : Exit → Env → List SObj → Prop} {id n d1 d2 d3 : Nat} {x y : Operand} {t t1 t2 t3 : TypeId} {p1 p2 p3 : String} {a1 a2 a3 : Array Edge} {ti eti : TI} {T sz el : Nat} {k : IntKind}
  (hd : dstOK c.nt #[{ dst := some d1, op := .move x, type := t1, pos := p1, after := a1, guard := none }, { dst := some d2, op := .move y, type := t2, pos := p2, after := a2, guard := none }, { dst := some d3, op := .slice t (.tmp d1) (some (.tmp d2)) none none, type := t3, pos := p3, after := a3, guard := none }] = true)
  (ht : tiOf P t = some ti) (hte : tiOf P el = some eti) (hk : ti.kind = .slice el) (hx : opnd e x = .h n) (hσ : σ[n]? = some (.row T sz [])) (h12 : d2 ≠ d1) (hy : opnd ((d1, .h n) :: e) y = .u (.i k 0))
  (h : Q .normal (((e.put (some d1) (.h n)).put (some d2) (.u (.i k 0))).put (some d3) .j) σ) :
  WPS P c (.region id #[{ dst := some d1, op := .move x, type := t1, pos := p1, after := a1, guard := none }, { dst := some d2, op := .move y, type := t2, pos := p2, after := a2, guard := none }, { dst := some d3, op := .slice t (.tmp d1) (some (.tmp d2)) none none, type := t3, pos := p3, after := a3, guard := none }] false) e σ Q := by
 intro A w hst
 refine wp_region ?_
 have hu := slice_of ht hk
 have hue : P.underlying t = some (.slice (P.elem t)) := by simp [Program.elem, hu]
 have helem : P.elem t = el := by simp [Program.elem, hu]
 -- the cut itself
 have hO : ∀ g : Operand → SV, g (.tmp d1) = .h n → g (.tmp d2) = .u (.i k 0) → OpR P { dst := some d3, op := .slice t (.tmp d1) (some (.tmp d2)) none none, type := t3, pos := p3, after := a3, guard := none } g [(n, .row T sz [])] .j [] := by
  intro g g1 g2
  refine OpR.read fun w0 ω0 β Φ ω σ w ρ hR hg hrd => ?_
  have hn := hrd n (.row T sz []) (by simp)
  obtain ⟨v, hβ, hOb⟩ := hR.at_ hn
  have hv := (g1 ▸ hg (.tmp d1) : V β Φ (.h n) (ρ (.tmp d1))).inv_h.1
  have h2 := (g2 ▸ hg (.tmp d2) : V β Φ (.u (.i k 0)) (ρ (.tmp d2))).inv_i
  rw [hβ] at hv
  have hv := (Option.some.inj hv).symm
  obtain ⟨ad, cap, hsl⟩ : ∃ ad cap, v = .slice ad 0 cap := by
   rcases hOb with ⟨a, h1, _⟩ | ⟨b, cap, cs, h1, _⟩
   ·exact ⟨a, 0, h1⟩
   ·exact ⟨_, cap, h1⟩
  have hrun := run_slice_l (P := P) w t ad 0 cap hue k 0 (Int.le_refl _) (Int.le_refl _)
  rw [helem, Nm.run_sizeOf hte] at hrun
  refine ⟨sliced ad (0 : Int).toNat 0 cap eti.size, ?_, .j _⟩
  simp only [execOp, Sem.run_bind, Option.map_some, Option.map_none]
  rw [run_sliceAt_slice w t _ _ _ _ hue, hv, hsl, h2, hrun]
  rfl
 generalize hops : (#[{ dst := some d1, op := .move x, type := t1, pos := p1, after := a1, guard := none }, { dst := some d2, op := .move y, type := t2, pos := p2, after := a2, guard := none }, { dst := some d3, op := .slice t (.tmp d1) (some (.tmp d2)) none none, type := t3, pos := p3, after := a3, guard := none }] : Array Oper) = ops at hd ⊢
 have hsl := dstOK_slot hd
 have hr : List.range ops.size = [0, 1, 2] := by rw [← hops]; rfl
 rw [hr]
 have s3 : OpsS P c ops [2] ((e.put (some d1) (.h n)).put (some d2) (.u (.i k 0))) σ fun e' σ' => Q .normal e' σ' := by
  intro a w Q' hst hfin
  refine Nm.wpOps_cons (o := { dst := some d3, op := .slice t (.tmp d1) (some (.tmp d2)) none none, type := t3, pos := p3, after := a3, guard := none }) (by rw [← hops]; rfl) ?_
  rw [if_pos (by simp [Region.wanted])]
  obtain ⟨β, Φ, ω, h1, h2, h3, h4, h5, h6⟩ := hst
  refine wp_of_opR (hO (opnd ((e.put (some d1) (.h n)).put (some d2) (.u (.i k 0)))) (by simp [opnd, Env.put, Env.get, h12]) (by simp [opnd, Env.put, Env.get])) (fun t ht => hsl 2 t (by rw [← hops]; exact ht)) h1 h2 h3 h4 h5 h6 (fun y => h5.opnd h6.gl y) ⟨hσ, trivial⟩ fun a' w' hs => ?_
  exact hfin _ _ _ _ hs h
 have s2 : OpsS P c ops [1, 2] (e.put (some d1) (.h n)) σ fun e' σ' => Q .normal e' σ' :=
  evStep_ok (o := { dst := some d2, op := .move y, type := t2, pos := p2, after := a2, guard := none }) (by rw [← hops]; rfl) hsl (N := 0) (K := fun e' σ' => e' = (e.put (some d1) (.h n)).put (some d2) (.u (.i k 0)) ∧ σ' = σ) (by simp [evStep, callOf, evOp, rdOK, setAll, hy, Env.put]) (fun e' σ' ⟨h1, h2⟩ => by subst h1 h2; exact s3)
 have s1 : OpsS P c ops [0, 1, 2] e σ fun e' σ' => Q .normal e' σ' :=
  evStep_ok (o := { dst := some d1, op := .move x, type := t1, pos := p1, after := a1, guard := none }) (by rw [← hops]; rfl) hsl (N := 0) (K := fun e' σ' => e' = e.put (some d1) (.h n) ∧ σ' = σ) (by simp [evStep, callOf, evOp, rdOK, setAll, hx]) (fun e' σ' ⟨h1, h2⟩ => by subst h1 h2; exact s2)
 exact s1 A w _ hst fun a w e' σ' hs hK => ⟨e', σ', hs, hK⟩

theorem ins_end1 (l : List Cel) (x0 : Cel) (q : Option Nat) (hl : l.length ≤ 100000) (h0 : 0 < l.length) : CallT Tryz.prog 152 [.h 0, .u (.i .i64 (l.length : Int)), .u (.fz [crow x0] q)] [.row 100 2 (l.map crow)]
  fun r σ => r = .u (.fz ((l ++ [x0]).map crow) none) ∧ σ = [.dead] := by
 have h1' := crow_ok1 l
 have h2' := crow_ok2 l
 unfold crow at *
 refine cof 95 [.tmp 6] Tryz.func152 Tryz.ntmps152 fun c hnt hc0 => ?_
 refine sq fun _ k1 => rgn 0 ?_
 repeat refine ⟨sd, ?_⟩
 refine k1 (sq fun _ k2 => rgn 0 ?_)
 repeat refine ⟨sd, ?_⟩
 refine k2 (sq fun _ k3 => rgn 0 ?_)
 repeat refine ⟨sd, ?_⟩
 refine k3 (sq fun _ k4 => sq fun _ k5 => rgn 0 ?_)
 repeat refine ⟨sd, ?_⟩
 refine k5 (cd rfl (fun h1 => ?_) (fun h1 => ?_))
 ·exact absurd h1 (by simp)
 ·refine wps_skip (k4 (sq fun _ k6 => rgn 0 ?_))
  repeat refine ⟨sd, ?_⟩
  refine k6 (sq fun _ k7 => sq fun _ k8 => rgn 0 ?_)
  repeat refine ⟨sd, ?_⟩
  refine k8 (cd rfl (fun h2 => ?_) (fun h2 => ?_))
  ·refine sq fun _ k9 => rgn 1 ?_
   repeat refine ⟨sd, ?_⟩
   refine k9 ?_
   refine wps_ent (e' := [(6, .u (.fz ((l ++ [x0]).map crow) none))]) (σ' := [.dead]) ((entF 1 rfl (e' := [(6, .u (.fz ((l ++ [x0]).map crow) none))]) (by simp only [go_sem, reduceIte, Nat.reduceEqDiff, Nat.reduceAdd, Nat.reduceLT, List.map_append, List.map_cons, List.map_nil]; rfl) rfl).trans (entL hc0 [some 0] rfl rfl mB mB)) ?_
   refine wps_ret ?_
   refine retL [some 0] rfl ⟨trivial, trivial⟩ rfl rfl ?_
   refine rtl ?_
   rfl
  ·exact absurd h2 (by simp)
theorem ins_end0 (x0 : Cel) (q : Option Nat) : CallT Tryz.prog 152 [.h 0, .u (.i .i64 0), .u (.fz [crow x0] q)] [.row 100 2 []]
  fun r σ => r = .u (.fz ([x0].map crow) none) ∧ σ = [.dead] := by
 have h1' := crow_ok1 [x0]
 have h2' := crow_ok2 [x0]
 unfold crow at *
 refine cof 95 [.tmp 6] Tryz.func152 Tryz.ntmps152 fun c hnt hc0 => ?_
 refine sq fun _ k1 => rgn 0 ?_
 repeat refine ⟨sd, ?_⟩
 refine k1 (sq fun _ k2 => ?_)
 refine wps_cut0 (by rw [hnt]; rfl) ty48 ty100 rfl rfl rfl (by decide) rfl ?_
 simp only [Env.put]
 refine k2 (sq fun _ k3 => rgn 0 ?_)
 repeat refine ⟨sd, ?_⟩
 refine k3 (sq fun _ k4 => sq fun _ k5 => rgn 0 ?_)
 repeat refine ⟨sd, ?_⟩
 refine k5 (cd rfl (fun h1 => ?_) (fun h1 => ?_))
 ·exact absurd h1 (by simp)
 ·refine wps_skip (k4 (sq fun _ k6 => rgn 0 ?_))
  repeat refine ⟨sd, ?_⟩
  refine k6 (sq fun _ k7 => sq fun _ k8 => rgn 0 ?_)
  repeat refine ⟨sd, ?_⟩
  refine k8 (cd rfl (fun h2 => ?_) (fun h2 => ?_))
  ·refine sq fun _ k9 => rgn 1 ?_
   repeat refine ⟨sd, ?_⟩
   refine k9 ?_
   refine wps_ent (e' := [(6, .u (.fz ([x0].map crow) none))]) (σ' := [.dead]) ((entF 1 rfl (e' := [(6, .u (.fz ([x0].map crow) none))]) (by simp only [go_sem, reduceIte, Nat.reduceEqDiff, Nat.reduceAdd, Nat.reduceLT, List.map_append, List.map_cons, List.map_nil]; rfl) rfl).trans (entL hc0 [some 0] rfl rfl mB mB)) ?_
   refine wps_ret ?_
   refine retL [some 0] rfl ⟨trivial, trivial⟩ rfl rfl ?_
   refine rtl ?_
   rfl
  ·exact absurd h2 (by simp)

/-- slices.Insert of a cell -/
theorem ins_ok (l : List Cel) (c : Cel) (i : Nat) (q : Option Nat) (hi : i ≤ l.length) (hl : l.length ≤ 100000) : CallT Tryz.prog 152 [.h 0, .u (.i .i64 (i : Int)), .u (.fz [crow c] q)] [.row 100 2 (l.map crow)]
  fun r σ => r = .u (.fz ((l.take i ++ c :: l.drop i).map crow) none) ∧ σ = [.dead] := by
 rcases Nat.lt_or_ge i l.length with hlt | hge
 ·intro w0 ω0 β Φ ω w vs hR hvl hv
  obtain ⟨v0, v1, v2, rfl⟩ : ∃ v0 v1 v2, vs = [v0, v1, v2] := by
   match vs, hvl with
   | [a, b, c], _ => exact ⟨a, b, c, rfl⟩
  have e0 := (hv 0 _ _ rfl rfl).inv_h.1
  have e1 := (hv 1 _ _ rfl rfl).inv_i
  obtain ⟨sz, a2, cap2, f2, e2, hsz, hl2, hm2, hq2, ha2, hc2, hp2⟩ := (hv 2 _ _ rfl rfl).inv_fz
  obtain ⟨v, hβ, hO⟩ := hR.at_ (n := 0) rfl
  rw [e0] at hβ
  obtain rfl := Option.some.inj hβ
  rcases hO with ⟨_, _, hnil⟩ | ⟨b, cap, cs, hv0, hω, hh, hcs, hcl, hm, hse, hj⟩
  ·have : l.length = 0 := by simpa using congrArg List.length hnil
   omega
  have hszc : sz = 2 := (hsz (crow c) (by simp)).symm
  subst hszc
  obtain ⟨ad, had⟩ := Option.isSome_iff_exists.1 (ha2 (by simp))
  subst had
  rw [List.length_map] at hcl hv0
  have hbl : b < w.heap.size := hR.lt b (by omega)
  -- the argument's block
  have hca : ∀ j, j < 2 → Φ.cell (ad.add (0 * 2 + j)) = some (f2 0 j) := fun j hj => by
   have hj2 : j < (crow c).length := by simpa [crow] using hj
   exact hc2 0 (crow c) j _ ad rfl (List.getElem?_eq_getElem hj2) rfl
  obtain ⟨vb, voff, spot⟩ := ad
  have hspot : spot = none := by
   have h := hca 0 (by decide)
   unfold Fz.cell at h
   split at h
   ·split at h
    ·cases h
    ·rename_i hs
     simp [Addr.add] at hs
     cases spot with
     | none => rfl
     | some x => simp at hs
   ·cases h
  subst hspot
  simp only [Addr.add_lit, Nat.zero_mul, Nat.zero_add] at hca
  obtain ⟨oa, hoa⟩ : ∃ oa, Φ vb = some oa := by
   have h := hca 0 (by decide)
   unfold Fz.cell at h
   split at h
   ·exact ⟨_, by assumption⟩
   ·cases h
  have hfz := hR.fz vb oa hoa
  have hvb : vb ≠ b := by rintro rfl; omega
  let vs2 : List Value := [f2 0 0, f2 0 1]
  have hwc : ∀ (j : Nat) v, vs2[j]? = some v → w.cell? ⟨vb, voff + j, none⟩ = some v := fun j v h => by
   match j, h with
   | 0, h => cases h; exact Fz.cell_of hR (hca 0 (by decide))
   | 1, h => cases h; exact Fz.cell_of hR (hca 1 (by decide))
   | j + 2, h => simp [vs2] at h
  obtain ⟨kc, Tc, fc, hoc, hkc⟩ : ∃ kc Tc fc, w.heap[vb]? = some (.cells kc Tc fc) ∧ kc.size ≠ 0 := by
   have h := hwc 0 _ rfl
   unfold World.cell? at h
   split at h
   ·rename_i kc Tc fc hq
    refine ⟨kc, Tc, fc, hq, fun h0 => ?_⟩
    have h1 := (Array.getElem?_eq_some_iff.1 (by simpa using h)).1
    omega
   ·cases h
  have hsa : w.shape? vb = some (Tc, kc.size) := by unfold World.shape?; rw [hoc]
  have hsb : w.shape? b = some (100, cs.size) := by unfold World.shape?; rw [hh]
  have hfrb : ∀ j, w.frozen? ⟨b, j, none⟩ = false := fun j => by unfold World.frozen?; rw [hh]; simp
  have hcell : ∀ p, w.cell? ⟨b, p, none⟩ = cs[p]? := fun p => by unfold World.cell?; rw [hh]; rfl
  have hcs2 : cs.size = cap * 2 := hcs
  obtain ⟨os, hos⟩ : ∃ os, os = cs.toList.take (l.length * 2) := ⟨_, rfl⟩
  have hosl : os.length = l.length * 2 := by
   have h3 : cs.toList.length = cap * 2 := by simpa using hcs2
   rw [hos, List.length_take, h3]; omega
  have hosat : ∀ (p : Nat) v, os[p]? = some v → cs[p]? = some v := fun p v h => by
   rw [hos, List.getElem?_take] at h
   split at h
   ·simpa using h
   ·cases h
  -- what stands in the row
  have hat : ∀ (t : Nat) (x : Cel), l[t]? = some x → ∀ (j : Nat) y, (crow x)[j]? = some y → ∃ u, os[t * 2 + j]? = some u ∧ VP Φ y u := fun t x hx j y hy => by
   have ht : t < l.length := (List.getElem?_eq_some_iff.1 hx).1
   have hj2 : j < 2 := (List.getElem?_eq_some_iff.1 hy).1
   have hlt2 : t * 2 + j < os.length := by omega
   refine ⟨os[t * 2 + j], List.getElem?_eq_getElem hlt2, ?_⟩
   have h1 : (l.map crow)[t]? = some (crow x) := by rw [List.getElem?_map, hx]; rfl
   exact hj t (crow x) j y _ h1 hy (hosat _ _ (List.getElem?_eq_getElem hlt2))
  have hone : ∀ v ∈ os, v.oneCell' = true := fun v hv => by
   obtain ⟨p, hp⟩ := List.getElem?_of_mem hv
   have hpl : p < os.length := (List.getElem?_eq_some_iff.1 hp).1
   have hpt : p / 2 < l.length := by omega
   obtain ⟨u, hu, hvp⟩ := hat (p / 2) l[p / 2] (List.getElem?_eq_getElem hpt) (p % 2) (if p % 2 = 0 then .s l[p / 2].1 else .s l[p / 2].2) (by
    rcases Nat.mod_two_eq_zero_or_one p with h | h <;> rw [h] <;> rfl)
   rw [show p / 2 * 2 + p % 2 = p by omega, hp] at hu
   cases hu
   refine hvp.one ?_
   split <;> rfl
  have hone2 : ∀ v ∈ vs2, v.oneCell' = true := fun v hv => by
   have h0 := hp2 0 (crow c) 0 _ rfl rfl
   have h1 := hp2 0 (crow c) 1 _ rfl rfl
   simp only [vs2, List.mem_cons, List.not_mem_nil, or_false] at hv
   rcases hv with rfl | rfl
   ·exact h0.one rfl
   ·exact h1.one rfl
  -- the end, alike on both roads
  have fin : ∀ (w' : World) (B cp : Nat), w'.os = w.os → w'.tape = w.tape → w'.output = w.output → w.heap.size ≤ w'.heap.size → (ω B = 0 + 2 ∨ w.heap.size ≤ B) → (∀ k, k < w.heap.size → k ≠ B → w'.heap[k]? = w.heap[k]?) →
    (∀ (p : Nat) v, (os.take (i * 2) ++ vs2 ++ os.drop (i * 2))[p]? = some v → w'.cell? ⟨B, p, none⟩ = some v) → l.length + 1 ≤ cp → cp ≤ maxLen →
    ∃ r v β' σ' Φ' ω', (Ending.returned (.slice (some ⟨B, 0, none⟩) (l.length + 1) cp)) = .returned v ∧ BExt β β' ∧ Φ.le Φ' ∧ V β' Φ' r v ∧ Rep w0 ω0 β' σ' Φ' ω' w' ∧ [SObj.row 100 2 (l.map crow)].length ≤ σ'.length ∧ (r = .u (.fz ((l.take i ++ c :: l.drop i).map crow) none) ∧ σ' = [.dead]) := by
   intro w' B cp k1 k2 k3 k4 k5 k6 k7 k8 k9
   have htl : (os.take (i * 2)).length = i * 2 := by rw [List.length_take]; omega
   have hfl : ∀ p, (os.take (i * 2) ++ vs2 ++ os.drop (i * 2))[p]? = if p < i * 2 then (os.take (i * 2))[p]? else if p < i * 2 + 2 then vs2[p - i * 2]? else (os.drop (i * 2))[p - (i * 2 + 2)]? := fun p => flat_at htl rfl
   obtain ⟨kB, TB, fB, hB⟩ : ∃ kB TB fB, w'.heap[B]? = some (.cells kB TB fB) := by
    have h := k7 (i * 2) (f2 0 0) (by rw [hfl, if_neg (by omega), if_pos (by omega), Nat.sub_self]; rfl)
    unfold World.cell? at h
    split at h
    ·exact ⟨_, _, _, by assumption⟩
    ·cases h
   obtain ⟨hle, hR'⟩ := rep_frozeAt hR (n := 0) (by simp) k1 k2 k3 k4 hB k5 k6
   have hcellB : ∀ p v, w'.cell? ⟨B, p, none⟩ = some v → Fz.cell (fun x => if x = B then some (.cells kB TB fB) else Φ x) ⟨B, p, none⟩ = some v := fun p v h => by
    unfold World.cell? at h
    rw [hB] at h
    unfold Fz.cell
    simp only [if_true]
    exact h
   -- every cell of the new row
   have hnew : ∀ (t : Nat) (x : Cel), (l.take i ++ c :: l.drop i)[t]? = some x → ∀ (j : Nat) y, (crow x)[j]? = some y → ∃ u, w'.cell? ⟨B, t * 2 + j, none⟩ = some u ∧ VP Φ y u := by
    intro t x hx j y hy
    have hj2 : j < 2 := (List.getElem?_eq_some_iff.1 hy).1
    have hti : (l.take i).length = i := by rw [List.length_take]; omega
    by_cases h1 : t < i
    ·rw [List.getElem?_append_left (by omega), List.getElem?_take, if_pos h1] at hx
     obtain ⟨u, hu, hvp⟩ := hat t x hx j y hy
     refine ⟨u, k7 _ u ?_, hvp⟩
     rw [hfl, if_pos (by omega), List.getElem?_take, if_pos (by omega)]; exact hu
    ·rw [List.getElem?_append_right (by omega), hti] at hx
     by_cases h2 : t = i
     ·subst h2
      rw [Nat.sub_self, List.getElem?_cons_zero] at hx
      cases hx
      have h3 := hp2 0 (crow c) j y rfl hy
      refine ⟨f2 0 j, k7 _ _ ?_, h3⟩
      rw [hfl, if_neg (by omega), if_pos (by omega), show t * 2 + j - t * 2 = j by omega]
      match j, hj2 with
      | 0, _ => rfl
      | 1, _ => rfl
     ·rw [show t - i = (t - 1 - i) + 1 by omega, List.getElem?_cons_succ, List.getElem?_drop, show i + (t - 1 - i) = t - 1 by omega] at hx
      obtain ⟨u, hu, hvp⟩ := hat (t - 1) x hx j y hy
      refine ⟨u, k7 _ u ?_, hvp⟩
      rw [hfl, if_neg (by omega), if_neg (by omega), List.getElem?_drop, show i * 2 + (t * 2 + j - (i * 2 + 2)) = (t - 1) * 2 + j by omega]; exact hu
   have hlen : ((l.take i ++ c :: l.drop i).map crow).length = l.length + 1 := by simp; omega
   have hvp : VP (fun x => if x = B then some (.cells kB TB fB) else Φ x) (.fz ((l.take i ++ c :: l.drop i).map crow) none) (.slice (some ⟨B, 0, none⟩) ((l.take i ++ c :: l.drop i).map crow).length cp) := by
    refine .fz 2 _ none (some ⟨B, 0, none⟩) cp (fun t j => (w'.cell? ⟨B, t * 2 + j, none⟩).getD (.bool false)) (crow_ok1 _) (by omega) k9 (by simp) (fun _ => rfl) (fun t e j y ad he hy had => ?_) (fun t e j y he hy => ?_)
    ·cases had
     rw [List.getElem?_map] at he
     obtain ⟨x, hx, rfl⟩ := Option.map_eq_some_iff.1 he
     obtain ⟨u, hu, hvp⟩ := hnew t x hx j y hy
     rw [Addr.add_lit, Nat.zero_add, hu]
     exact hcellB _ _ hu
    ·rw [List.getElem?_map] at he
     obtain ⟨x, hx, rfl⟩ := Option.map_eq_some_iff.1 he
     obtain ⟨u, hu, hvp⟩ := hnew t x hx j y hy
     rw [hu]
     exact hvp.mono hle
   rw [hlen] at hvp
   exact ⟨_, _, β, [.dead], _, _, rfl, BExt.refl _, hle, .u _ _ hvp, hR', by simp, rfl, rfl⟩
  rw [hv0, e1, e2]
  obtain ⟨i0, _, z0, hi1, _, hi3, _⟩ := tiOf_inv ty100
  have htl : (os.take (i * 2)).length = i * 2 := by rw [List.length_take]; omega
  have hdl : (os.drop (i * 2)).length = (l.length - i) * 2 := by rw [List.length_drop]; omega
  have hfl : ∀ p, (os.take (i * 2) ++ vs2 ++ os.drop (i * 2))[p]? = if p < i * 2 then (os.take (i * 2))[p]? else if p < i * 2 + 2 then vs2[p - i * 2]? else (os.drop (i * 2))[p - (i * 2 + 2)]? := fun p => flat_at htl rfl
  rcases Nat.lt_or_ge cap (l.length + 1) with hgrow | hroom
  ·have hzl : z0.cells.size = 2 := by
    obtain ⟨i1, _, z1, q1, _, q3, q4, _⟩ := tiOf_inv ty100
    rw [hi1] at q1; cases q1
    rw [hi3] at q3; cases q3
    have := (pvs_ok (Φ := fun _ => none) q4).1
    simpa using this.symm
   have hg := ins_grow b l.length cap i vb voff cap2 os vs2 w hlt hcl hgrow (by omega) hosl rfl z0 (fun j v h => by rw [hcell]; exact hosat j v h) hwc hone hone2 ⟨i0, hi1, hi3⟩
   obtain ⟨G, hG⟩ : ∃ G, grownCap w (l.length + 1) cap 100 = G := ⟨_, rfl⟩
   have hGge : l.length + 1 ≤ G := by rw [← hG]; exact grownCap_ge w _ _ _
   have hGle : G ≤ maxLen := by rw [← hG]; exact grownCap_le_maxLen w (l.length + 1) cap 100 (by unfold maxLen; omega)
   rw [hG] at hg
   obtain ⟨ROW, hROW⟩ : ∃ ROW : Array Value, (os.take (i * 2)).toArray ++ Builtin.zeroCells z0.cells (l.length + 1 - i) ++ Builtin.zeroCells z0.cells (G - (l.length + 1)) = ROW := ⟨_, rfl⟩
   rw [hROW] at hg
   have hRl : (l.length + 1) * 2 ≤ ROW.size := by
    rw [← hROW, Array.size_append, Array.size_append, size_zeroCells, size_zeroCells, hzl, List.size_toArray, htl]
    omega
   have hR0 : ∀ p, p < i * 2 → ROW[p]? = (os.take (i * 2))[p]? := fun p hp => by
    rw [← hROW, Array.append_assoc, Array.getElem?_append_left (by rw [List.size_toArray]; omega)]
    simp
   refine hg.mono fun e w' ⟨he, hw'⟩ => ?_
   subst he hw'
   obtain ⟨m1, m2, m3, m4, m5⟩ := setCells_kept w.heap.size vs2 (i * 2) (w.alloc (.cells ROW 100)).drew
   obtain ⟨r1, r2, r3, r4, r5⟩ := setCells_kept w.heap.size (os.drop (i * 2)) ((i + 1) * 2) ((w.alloc (.cells ROW 100)).drew.setCells w.heap.size (i * 2) vs2).drew
   have hsz : (w.alloc (.cells ROW 100)).heap.size = w.heap.size + 1 := Array.size_push ..
   have hA : ∀ j, (w.alloc (.cells ROW 100)).drew.cell? ⟨w.heap.size, j, none⟩ = ROW[j]? := fun j => World.cell?_alloc_at (w := w) ROW 100 w.heap.size j rfl
   have hin1 : ∀ j, j < vs2.length → ((w.alloc (.cells ROW 100)).drew.cell? ⟨w.heap.size, i * 2 + j, none⟩).isSome = true := fun j hj => by
    have hj2 : j < 2 := hj
    rw [hA, Array.getElem?_eq_getElem (by omega)]; rfl
   have hin2 : ∀ j, j < (os.drop (i * 2)).length → (((w.alloc (.cells ROW 100)).drew.setCells w.heap.size (i * 2) vs2).drew.cell? ⟨w.heap.size, (i + 1) * 2 + j, none⟩).isSome = true := fun j hj => by
    refine some_setCells w.heap.size vs2 (i * 2) (w.alloc (.cells ROW 100)).drew hin1 _ ?_
    rw [hA, Array.getElem?_eq_getElem (by omega)]; rfl
   refine fin _ w.heap.size G (r1.trans m1) (r2.trans m2) (r3.trans m3) (by rw [r4]; show _ ≤ (World.setCells _ _ _ _).heap.size; rw [m4]; show _ ≤ (w.alloc _).heap.size; omega) (.inr (Nat.le_refl _)) (fun k hk hne => ?_) (fun p v hp => ?_) hGge hGle
   ·rw [r5 k hne]
    show (World.setCells _ _ _ _).heap[k]? = _
    rw [m5 k hne]
    show (w.alloc _).heap[k]? = _
    show (w.heap.push _)[k]? = _
    rw [Array.getElem?_push_lt hk, Array.getElem?_eq_getElem hk]
   ·rw [hfl] at hp
    by_cases h1 : p < i * 2
    ·rw [if_pos h1] at hp
     rw [World.cell?_setCells_out _ _ _ _ _ (fun _ _ => .inl (by show p < _; omega))]
     show (World.setCells _ _ _ _).cell? _ = _
     rw [World.cell?_setCells_out _ _ _ _ _ (fun _ _ => .inl (by show p < _; omega)), hA, hR0 p h1]; exact hp
    ·rw [if_neg h1] at hp
     by_cases h2 : p < i * 2 + 2
     ·rw [if_pos h2] at hp
      rw [World.cell?_setCells_out _ _ _ _ _ (fun _ _ => .inl (by show p < _; omega))]
      show (World.setCells _ _ _ _).cell? _ = _
      have hlt2 : p - i * 2 < vs2.length := by show _ < 2; omega
      have := World.cell?_setCells_in w.heap.size vs2 (i * 2) _ hin1 (p - i * 2) hlt2
      rw [show i * 2 + (p - i * 2) = p by omega] at this
      rw [this, ← List.getElem?_eq_getElem hlt2]; exact hp
     ·rw [if_neg h2] at hp
      have hlt2 : p - (i * 2 + 2) < (os.drop (i * 2)).length := (List.getElem?_eq_some_iff.1 hp).1
      have := World.cell?_setCells_in w.heap.size (os.drop (i * 2)) ((i + 1) * 2) _ hin2 (p - (i * 2 + 2)) hlt2
      rw [show (i + 1) * 2 + (p - (i * 2 + 2)) = p by omega] at this
      rw [this, ← List.getElem?_eq_getElem hlt2]; exact hp
  ·have hg := ins_shift b l.length cap i vb voff cap2 os vs2 w hlt hroom (by unfold maxLen at hm; omega) hvb hosl rfl (fun j v h => by rw [hcell]; exact hosat j v h) (fun j hj => by rw [hcell, Array.getElem?_eq_getElem (by omega)]; rfl) hfrb hwc hone hone2 Tc 100 kc.size cs.size hsa hkc hsb (by omega)
   refine hg.mono fun e w' ⟨he, hw'⟩ => ?_
   subst he hw'
   obtain ⟨m1, m2, m3, m4, m5⟩ := setCells_kept b (os.drop (i * 2)) ((i + 1) * 2) w.drew
   obtain ⟨r1, r2, r3, r4, r5⟩ := setCells_kept b vs2 (i * 2) (w.drew.setCells b ((i + 1) * 2) (os.drop (i * 2)))
   have hA : ∀ j, w.drew.cell? ⟨b, j, none⟩ = cs[j]? := fun j => hcell j
   have hin1 : ∀ j, j < (os.drop (i * 2)).length → (w.drew.cell? ⟨b, (i + 1) * 2 + j, none⟩).isSome = true := fun j hj => by
    rw [hA, Array.getElem?_eq_getElem (by omega)]; rfl
   have hin2 : ∀ j, j < vs2.length → ((w.drew.setCells b ((i + 1) * 2) (os.drop (i * 2))).cell? ⟨b, i * 2 + j, none⟩).isSome = true := fun j hj => by
    have hj2 : j < 2 := hj
    refine some_setCells b _ _ _ hin1 _ ?_
    rw [hA, Array.getElem?_eq_getElem (by omega)]; rfl
   refine fin _ b cap (r1.trans m1) (r2.trans m2) (r3.trans m3) (by rw [r4, m4]; exact Nat.le_refl _) (.inl hω) (fun k hk hne => ?_) (fun p v hp => ?_) hroom hm
   ·rw [r5 k hne, m5 k hne]; rfl
   ·rw [hfl] at hp
    by_cases h1 : p < i * 2
    ·rw [if_pos h1, List.getElem?_take, if_pos h1] at hp
     rw [World.cell?_setCells_out _ _ _ _ _ (fun _ _ => .inl (by show p < _; omega)), World.cell?_setCells_out _ _ _ _ _ (fun _ _ => .inl (by show p < _; omega)), hA]
     exact hosat _ _ hp
    ·rw [if_neg h1] at hp
     by_cases h2 : p < i * 2 + 2
     ·rw [if_pos h2] at hp
      have hlt2 : p - i * 2 < vs2.length := by show _ < 2; omega
      have := World.cell?_setCells_in b vs2 (i * 2) _ hin2 (p - i * 2) hlt2
      rw [show i * 2 + (p - i * 2) = p by omega] at this
      rw [this, ← List.getElem?_eq_getElem hlt2]; exact hp
     ·rw [if_neg h2] at hp
      have hlt2 : p - (i * 2 + 2) < (os.drop (i * 2)).length := (List.getElem?_eq_some_iff.1 hp).1
      have := World.cell?_setCells_in b (os.drop (i * 2)) ((i + 1) * 2) _ hin1 (p - (i * 2 + 2)) hlt2
      rw [show (i + 1) * 2 + (p - (i * 2 + 2)) = p by omega] at this
      rw [World.cell?_setCells_out _ _ _ _ _ (fun _ _ => .inr (by show i * 2 + vs2.length ≤ p; show i * 2 + 2 ≤ p; omega)), this, ← List.getElem?_eq_getElem hlt2]; exact hp
 ·have hil : i = l.length := by omega
  subst hil
  rw [List.take_length, List.drop_length]
  rcases Nat.eq_zero_or_pos l.length with h0 | h0
  ·have : l = [] := List.eq_nil_of_length_eq_zero h0
   subst this
   exact ins_end0 c q
  ·exact ins_end1 l c q hl h0

/-- a copy of cells, never written again -/
theorem ccopy_ok (l : List Cel) (q : Option Nat) (hl : l.length ≤ 100000) : CallT Tryz.prog 147 [.u (.fz (l.map crow) q)] []
  fun r σ => r = .u (.fz (l.map crow) none) ∧ σ = [] := by
 have h1 := crow_ok1 l
 have h2 := crow_ok2 l
 refine cof 8 [.tmp 2] Tryz.func147 Tryz.ntmps147 fun c hnt hc0 => ?_
 refine sq fun _ k1 => rgn 0 ?_
 repeat refine ⟨sd, ?_⟩
 refine k1 (sq fun _ k2 => sq fun _ k3 => ?_)
 refine wps_nilL (els := l.map crow) (q := q) (by rw [hnt]; decide) (by rw [hnt]; decide) Tryz.underlying48 rfl fun b hb => ?_
 refine k3 (cd rfl (fun h1 => ?_) (fun h1 => ?_))
 ·have hnil : l = [] := by simpa using hb h1
  subst hnil
  refine sq fun _ k4 => rgn 0 ?_
  repeat refine ⟨sd, ?_⟩
  refine k4 ?_
  refine wps_ent (e' := [(2, .u (.fz [] none))]) (σ' := []) ((ent_cap 2 rfl).trans (entL hc0 [] rfl rfl mB mB)) ?_
  refine wps_ret ?_
  refine retL [] rfl ⟨trivial, trivial⟩ rfl rfl ?_
  simp only [go_sem, and_true, true_and, implies_true, reduceIte, Nat.reduceEqDiff, Nat.reduceAdd, Nat.reduceLT, List.map_nil]
 ·refine wps_skip (k2 (sq fun _ k5 => rgn 1 ?_))
  repeat refine ⟨sd, ?_⟩
  refine k5 ?_
  refine wps_ent (e' := [(2, .u (.fz (l.map crow) none))]) (σ' := []) ((entF 0 rfl (e' := [(2, .u (.fz (l.map crow) none))]) mB rfl).trans (entL hc0 [] rfl rfl mB mB)) ?_
  refine wps_ret ?_
  refine retL [] rfl ⟨trivial, trivial⟩ rfl rfl ?_
  simp only [go_sem, and_true, true_and, implies_true, reduceIte, Nat.reduceEqDiff, Nat.reduceAdd, Nat.reduceLT, List.map_nil]

/-! ### a cell more -/
def putC (c : Cel) (l : List Cel) : List Cel := if keyAt c.1 l then l.set (lob c.1 l) c else l.take (lob c.1 l) ++ c :: l.drop (lob c.1 l)
theorem keyAt_lt {key : List UInt8} {l : List Cel} (h : keyAt key l = true) : lob key l < l.length := by
 unfold keyAt at h
 cases hg : l[lob key l]? with
 | none => rw [hg] at h; simp at h
 | some c => exact (List.getElem?_eq_some_iff.1 hg).1

theorem pgput_ok (p : Pg) (c0 : Cel) (q : Option Nat) (hs : Sorted p.cells) (hl : p.cells.length ≤ 90000) (hc : c0.1.length + c0.2.length ≤ 480) : CallT Tryz.prog 123 [pgA p q, .agg [.u (.s c0.1), .u (.s c0.2)]] []
  fun r σ => r = .tup [pgA ⟨p.leaf, p.next, putC c0 p.cells⟩ (some (putC c0 p.cells).length), .u (.i .i64 0)] ∧ σ = [] := by
 have hg := great_ok c0 (by omega) (by omega)
 rw [show great c0 = false by rw [great]; simp; omega] at hg
 have hf := find_ok p q c0.1 hs (by omega)
 have hcl := cclone_ok p.cells q (by omega)
 have hle := lob_le c0.1 p.cells
 obtain ⟨K, hK⟩ : ∃ K, lob c0.1 p.cells = K := ⟨_, rfl⟩
 have hkl := @keyAt_lt c0.1 p.cells
 have hput : putC c0 p.cells = if keyAt c0.1 p.cells then p.cells.set K c0 else p.cells.take K ++ c0 :: p.cells.drop K := by rw [putC, hK]
 obtain ⟨B, hB⟩ : ∃ B, keyAt c0.1 p.cells = B := ⟨_, rfl⟩
 have hpl : (putC c0 p.cells).length ≤ 100000 := by
  rw [hput]; split <;> simp <;> omega
 have hwi := with_ok p (putC c0 p.cells) q none hpl
 have hins := ins_ok p.cells c0 K (some 1) (by omega) (by omega)
 rw [hK, hB] at hf hkl
 rw [hB] at hput
 obtain ⟨leaf, next, l⟩ := p
 simp only at *
 obtain ⟨R, hR⟩ : ∃ R, putC c0 l = R := ⟨_, rfl⟩
 rw [hR] at hput hwi ⊢
 unfold pgA at *
 simp only [crow] at hins
 simp only at *
 refine cof 35 [.cell 4 165, .tmp 5] Tryz.func123 Tryz.ntmps123 fun c hnt hc0 => ?_
 refine sq fun _ k1 => rgn 3 ?_
 repeat refine ⟨sd, ?_⟩
 refine k1 (sq fun _ k2 => sq fun _ k3 => rgn 0 ?_)
 repeat refine ⟨sd, ?_⟩
 refine callT_at [] [] hg rfl rfl trivial mB mB rfl mR mR ?_
 refine evl ?_
 repeat refine ⟨sd, ?_⟩
 refine k3 (cd rfl (fun h1 => ?_) (fun h1 => ?_))
 ·exact absurd h1 (by simp)
 ·refine wps_skip (k2 (sq fun _ k4 => rgn 0 ?_))
  repeat refine ⟨sd, ?_⟩
  refine callT_at [] [] hf rfl rfl trivial mB mB rfl mR mR ?_
  refine evl ?_
  repeat refine ⟨sd, ?_⟩
  refine k4 (sq fun _ k5 => rgn 0 ?_)
  repeat refine ⟨sd, ?_⟩
  refine callT_new hcl mB ?_
  refine rtl ?_
  refine evl ?_
  repeat refine ⟨sd, ?_⟩
  refine k5 (sq fun _ k6 => sq fun _ k7 => rgn 0 ?_)
  repeat refine ⟨sd, ?_⟩
  refine k7 (cd rfl (fun h2 => ?_) (fun h2 => ?_))
  ·subst h2
   have hlt := hkl rfl
   have hel := crow_at hlt
   have hset : (l.map crow).set K [.s c0.1, .s c0.2] = (l.set K c0).map crow := by simp [List.map_set, crow]
   simp only [reduceIte] at hput
   refine rg 0 ?_
   refine evx3 hel hset hput.symm ?_
   repeat refine ⟨sd, ?_⟩
   refine k6 (sq fun _ k8 => ?_)
   first
   | refine wps_ent (e' := [(2, .p 0 0), (4, .p 2 0), (8, .u (.fz (R.map crow) none))]) (entF 3 rfl mB rfl) ?_
   | skip
   refine rg 0 ?_
   refine evx hput.symm ?_
   repeat refine ⟨sd, ?_⟩
   refine callT_at [] [] hwi rfl rfl trivial mB mB rfl mR mR ?_
   refine evx hput.symm ?_
   repeat refine ⟨sd, ?_⟩
   refine k8 (wps_ret ?_)
   refine retL [] mA mO rfl rfl ?_
   exact mT
  ·subst h2
   simp only [Bool.false_eq_true, reduceIte] at hput
   refine rgn 0 ?_
   repeat refine ⟨sd, ?_⟩
   refine callT_at [3] [_] hins rfl rfl ⟨rfl, trivial⟩ mB mB rfl mR mR ?_
   refine evl ?_
   repeat refine ⟨sd, ?_⟩
   refine k6 (sq fun _ k9 => ?_)
   first
   | refine wps_ent (e' := [(2, .p 0 0), (4, .p 2 0), (8, .u (.fz (R.map crow) none))]) (entF 3 rfl mB rfl) ?_
   | skip
   refine rg 0 ?_
   refine evx hput.symm ?_
   repeat refine ⟨sd, ?_⟩
   refine callT_at [] [] hwi rfl rfl trivial mB mB rfl mR mR ?_
   refine evx hput.symm ?_
   repeat refine ⟨sd, ?_⟩
   refine k9 (wps_ret ?_)
   refine retL [] mA mO rfl rfl ?_
   exact mT

/-! ### a page's two halves -/
def splitF (l : List Cel) : Nat → Nat → Nat
 | 0, k => k
 | f + 1, k => if k + 1 < l.length ∧ 2 * (cellsS (l.take k)).length < (cellsS l).length then splitF l f (k + 1) else k
def splitK (l : List Cel) : Nat := splitF l l.length 1
theorem splitF_le {l : List Cel} : ∀ {f k : Nat}, k < l.length → splitF l f k < l.length
 | 0, k, h => h
 | f + 1, k, h => by
  rw [splitF]
  split
  ·rename_i h2; exact splitF_le (by omega)
  ·exact h

theorem pgsplit_ok (p : Pg) (q : Option Nat) (h2 : 2 ≤ p.cells.length) (hl : (cellsS p.cells).length ≤ 100000) : CallT Tryz.prog 153 [pgA p q] []
  fun r σ => r = .tup [pgA ⟨p.leaf, p.next, p.cells.take (splitK p.cells)⟩ (some (p.cells.take (splitK p.cells)).length), pgA ⟨p.leaf, p.next, p.cells.drop (splitK p.cells)⟩ (some (p.cells.drop (splitK p.cells)).length), .u (.i .i64 0)] ∧ σ = [] := by
 have hlen := cells_len p.cells
 have hKl : splitK p.cells < p.cells.length := splitF_le (by omega)
 have hby := pbytes_ok p.cells q (by omega)
 have hbk := fun k q => pbytes_ok (p.cells.take k) q (by have := cellsS_take p.cells k; omega)
 obtain ⟨K, hK⟩ : ∃ K, splitK p.cells = K := ⟨_, rfl⟩
 rw [hK] at hKl ⊢
 have hc1 := fun q => ccopy_ok (p.cells.take K) q (by simp; omega)
 have hc2 := fun q => ccopy_ok (p.cells.drop K) q (by simp; omega)
 have hw1 := with_ok p (p.cells.take K) q none (by simp; omega)
 have hw2 := with_ok p (p.cells.drop K) q none (by simp; omega)
 unfold splitK at hK
 obtain ⟨leaf, next, l⟩ := p
 simp only at *
 obtain ⟨X, hX⟩ : ∃ X, l.take K = X := ⟨_, rfl⟩
 obtain ⟨Y, hY⟩ : ∃ Y, l.drop K = Y := ⟨_, rfl⟩
 rw [hX] at hc1 hw1 ⊢
 rw [hY] at hc2 hw2 ⊢
 have hr1 := crow_ok1 l
 have hwn : IntKind.i64.wrap ((l.length : Int) - 1) = ((l.length - 1 : Nat) : Int) := by rw [wrap64 (by omega) (by omega)]; omega
 unfold pgA at *
 simp only at *
 refine cof 48 [.cell 2 165, .cell 3 165, .tmp 4] Tryz.func153 Tryz.ntmps153 fun c hnt hc0 => ?_
 refine sq fun _ k1 => rgn 3 ?_
 repeat refine ⟨sd, ?_⟩
 refine k1 (sq fun _ k2 => sq fun _ k3 => rgn 0 ?_)
 repeat refine ⟨sd, ?_⟩
 refine k3 (cd rfl (fun h1 => ?_) (fun h1 => ?_))
 ·exact absurd h1 (by simp; omega)
 ·refine wps_skip (k2 (sq fun _ k4 => rgn 0 ?_))
  repeat refine ⟨sd, ?_⟩
  refine callT_at [] [] hby rfl rfl trivial mB mB rfl mR mR ?_
  refine evl ?_
  repeat refine ⟨sd, ?_⟩
  refine k4 (sq fun _ k5 => bk fun _ k6 => ?_)
  refine wps_loop (fun m e σ => ∃ k f : Nat, m = l.length - k ∧ 1 ≤ k ∧ k < l.length ∧ l.length ≤ k + f ∧ splitF l f k = K ∧ e = [(1, .p 0 0), (2, .p 1 0), (3, .p 2 0), (5, .u (.i .i64 ((cellsS l).length : Int))), (6, .u (.i .i64 (k : Int)))] ∧ σ = [.cells [.u (.b leaf), .u (.i .i64 (next : Int)), .u (.fz (l.map crow) q)], .cells [.u (.b false), .u (.i .i64 0), .u (.fz [] (some 0))], .cells [.u (.b false), .u (.i .i64 0), .u (.fz [] (some 0))]])
   (e0 := [(1, .p 0 0), (2, .p 1 0), (3, .p 2 0), (5, .u (.i .i64 ((cellsS l).length : Int))), (6, .u (.i .i64 1))]) (σ0 := [.cells [.u (.b leaf), .u (.i .i64 (next : Int)), .u (.fz (l.map crow) q)], .cells [.u (.b false), .u (.i .i64 0), .u (.fz [] (some 0))], .cells [.u (.b false), .u (.i .i64 0), .u (.fz [] (some 0))]]) (entL hc0 [some 0, some 1, some 2] rfl rfl mB mB) ⟨1, l.length, rfl, Nat.le_refl _, by omega, by omega, hK, rfl, rfl⟩ fun KL m e1 σ1 hI hKL => ?_
  obtain ⟨k, f, rfl, hk1, hkl, hkf, hsf, rfl, rfl⟩ := hI
  obtain ⟨g, rfl⟩ : ∃ g, f = g + 1 := ⟨f - 1, by omega⟩
  rw [splitF] at hsf
  have hwk := wi1 k
  have htl := cellsS_take l k
  have hw2' : IntKind.i64.wrap (2 * ((cellsS (l.take k)).length : Int)) = ((2 * (cellsS (l.take k)).length : Nat) : Int) := by rw [wrap64 (by omega) (by omega)]; omega
  have hmt : (l.map crow).take k = (l.take k).map crow := by rw [List.map_take]
  refine sq fun _ k7 => sq fun _ k8 => ?_
  rcases Nat.lt_or_ge k (l.length - 1) with hlt | hge
  ·have hd : decide ((k : Int) < ((l.length - 1 : Nat) : Int)) = true := decide_eq_true (by omega)
   refine rg 0 ?_
   refine evx4 hwn hd hmt hw2' ?_
   repeat refine ⟨sd, ?_⟩
   refine callT_at [] [] (hbk k (Option.map (fun x => x) q)) rfl rfl trivial mB mB rfl mR mR ?_
   refine evx4 hwn hd hmt hw2' ?_
   repeat refine ⟨sd, ?_⟩
   refine k8 (cd rfl (fun h2 => ?_) (fun h2 => ?_))
   ·have h2' : 2 * (cellsS (l.take k)).length < (cellsS l).length := by simp at h2; omega
    rw [if_pos ⟨by omega, h2'⟩] at hsf
    refine wps_skip (k7 (bk fun _ k9 => rg 0 ?_))
    refine evx hwk ?_
    repeat refine ⟨sd, ?_⟩
    refine k9 ?_
    exact hKL _ _ (l.length - (k + 1)) _ _ (entL hc0 [some 0, some 1, some 2] rfl rfl mB mB) ⟨k + 1, g, rfl, by omega, by omega, by omega, hsf, rfl, rfl⟩ (by omega)
   ·have h2' : ¬ 2 * (cellsS (l.take k)).length < (cellsS l).length := by simp at h2; omega
    rw [if_neg (fun h => h2' h.2)] at hsf
    refine wps_exit ?_
    simp only [reduceIte, Nat.reduceEqDiff]
    refine k6 (k5 (sq fun _ k10 => ?_))
    subst hsf
    have hmd : (l.map crow).drop k = Y.map crow := by rw [← hY, List.map_drop]
    rw [hX] at hmt
    have hta : (l.map crow).take l.length = l.map crow := by rw [List.take_of_length_le]; simp
    refine dr 0 [0, 0, 2, 0, 14, 30, 63, 0, 0, 256, 0, 1792, 3967, 8191, 16383, 32767, 65535] mixed ?_
    refine evx3 hmt hta hmd ?_
    repeat refine ⟨sd, ?_⟩
    refine callE_at [] [] (hc1 (Option.map (fun x => x) q)) rfl rfl trivial mB mB rfl mR mR ?_
    refine evx3 hmt hta hmd ?_
    repeat refine ⟨sd, ?_⟩
    refine callE_at [] [] hw1 rfl rfl trivial mB mB rfl mR mR ?_
    refine evx3 hmt hta hmd ?_
    repeat refine ⟨sd, ?_⟩
    refine callE_at [] [] (hc2 (Option.map (fun x => x - k) q)) rfl rfl trivial mB mB rfl mR mR ?_
    refine evx3 hmt hta hmd ?_
    repeat refine ⟨sd, ?_⟩
    refine callE_at [] [] hw2 rfl rfl trivial mB mB rfl mR mR ?_
    refine evx3 hmt hta hmd ?_
    repeat refine ⟨sd, ?_⟩
    refine k10 (wps_ret ?_)
    refine retL [] mA mO rfl rfl ?_
    exact mT
  ·have hd : decide ((k : Int) < ((l.length - 1 : Nat) : Int)) = false := decide_eq_false (by omega)
   rw [if_neg (by omega)] at hsf
   refine rg 0 ?_
   refine evx4 hwn hd hmt hw2' ?_
   repeat refine ⟨sd, ?_⟩
   skip
   repeat refine ⟨sd, ?_⟩
   refine k8 (cd rfl (fun h2 => ?_) (fun h2 => ?_))
   ·exact absurd h2 (by simp)
   ·refine wps_exit ?_
    simp only [reduceIte, Nat.reduceEqDiff]
    refine k6 (k5 (sq fun _ k11 => ?_))
    subst hsf
    have hmd : (l.map crow).drop k = Y.map crow := by rw [← hY, List.map_drop]
    rw [hX] at hmt
    have hta : (l.map crow).take l.length = l.map crow := by rw [List.take_of_length_le]; simp
    refine dr 0 [0, 0, 2, 0, 14, 30, 63, 0, 0, 256, 0, 1792, 3967, 8191, 16383, 32767, 65535] mixed ?_
    refine evx3 hmt hta hmd ?_
    repeat refine ⟨sd, ?_⟩
    refine callE_at [] [] (hc1 (Option.map (fun x => x) q)) rfl rfl trivial mB mB rfl mR mR ?_
    refine evx3 hmt hta hmd ?_
    repeat refine ⟨sd, ?_⟩
    refine callE_at [] [] hw1 rfl rfl trivial mB mB rfl mR mR ?_
    refine evx3 hmt hta hmd ?_
    repeat refine ⟨sd, ?_⟩
    refine callE_at [] [] (hc2 (Option.map (fun x => x - k) q)) rfl rfl trivial mB mB rfl mR mR ?_
    refine evx3 hmt hta hmd ?_
    repeat refine ⟨sd, ?_⟩
    refine callE_at [] [] hw2 rfl rfl trivial mB mB rfl mR mR ?_
    refine evx3 hmt hta hmd ?_
    repeat refine ⟨sd, ?_⟩
    refine k11 (wps_ret ?_)
    refine retL [] mA mO rfl rfl ?_
    exact mT
end Go.Proofs.YtefipnajpabfgaaGreatDoor
