/- Part 23 of the proof: what functions of the program do, and plain facts on what they compute. -/
import Derived.Test.YtefipnajpabfgaaGreatDoorP22
set_option linter.all false
set_option maxRecDepth 40000
set_option maxHeartbeats 16000000
set_option linter.unusedSimpArgs false
set_option linter.unusedVariables false
namespace Go.Proofs.YtefipnajpabfgaaGreatDoor
open Go.Nm

/-! ### the tree: what is read, what is put -/
structure TreeJ (W : PgM) (m : Nat) (E : List En) (r : List (List En)) : Prop where
 lvs : LvsOK true (E :: r)
 pgs : ∀ z ∈ (E :: r).flatten, pget z.id W = some z.pg ∧ szOK z ∧ z.id < m
 nd : (ids (E :: r).flatten).Nodup
 cnt : Cnt W m
 num : (E :: r).flatten.length = m
def TreeInv (W : PgM) (m : Nat) (l : List Cel) : Prop := ∃ E r, TreeJ W m E r ∧ cellsOf E = l
theorem min_cells {b : Bool} {k : Nat} : ∀ {E : List En}, (∀ e ∈ E, k ≤ e.pg.cells.length) → k * E.length ≤ (cellsOf E).length
 | [], _ => by simp
 | e :: E, h => by
  have h1 := h e List.mem_cons_self
  have h2 := min_cells (b := b) (E := E) fun x hx => h x (List.mem_cons_of_mem _ hx)
  rw [cellsOf_cons, List.length_append, List.length_cons, Nat.mul_add, Nat.mul_one]
  omega
theorem lv_cnt {b : Bool} {E : List En} (h : LvOK b E) (h2 : 2 ≤ E.length) : minC b * E.length ≤ (cellsOf E).length := min_cells (b := b) (h.cnt h2)
theorem tree_cnt {E : List En} {r : List (List En)} (h : LvsOK true (E :: r)) (hl : (cellsOf E).length ≤ 97) : (E :: r).flatten.length ≤ 55 ∧ r.length ≤ 2 := by
 cases r with
 | nil =>
  obtain ⟨_, e, rfl, _⟩ := h
  simp
 | cons E1 r =>
  obtain ⟨a1, a2, a3, a4⟩ := h
  have b1 := lv_cnt a1 a2
  have c1 := congrArg List.length a3
  rw [List.length_map] at c1
  simp only [minC, if_true] at b1
  cases r with
  | nil =>
   obtain ⟨_, e, rfl, _⟩ := a4
   simp; omega
  | cons E2 r =>
   obtain ⟨d1, d2, d3, d4⟩ := a4
   have b2 := lv_cnt d1 d2
   have c2 := congrArg List.length d3
   rw [List.length_map] at c2
   simp only [minC, Bool.false_eq_true, if_false] at b2
   cases r with
   | nil =>
    obtain ⟨_, e, rfl, _⟩ := d4
    simp; omega
   | cons E3 r =>
    obtain ⟨f1, f2, f3, f4⟩ := d4
    have b3 := lv_cnt f1 f2
    simp only [minC, Bool.false_eq_true, if_false] at b3
    omega
theorem chain_suf : ∀ {A : List En} {e : En} {B : List En}, chainE (A ++ e :: B) → chainE (e :: B)
 | [], e, B, h => h
 | [a], e, B, h => h.2
 | a :: a' :: A, e, B, h => chain_suf (A := a' :: A) h.2
theorem rst_chain {W : PgM} : ∀ {B : List En} {e : En}, chainE (e :: B) → (∀ z ∈ B, pget z.id W = some z.pg ∧ PgOK z.pg ∧ z.id ≠ 0) → Rst W e.pg.next (B.map fun z => z.pg.cells)
 | [], e, h, _ => by rw [show e.pg.next = 0 from h]; exact .nil
 | b :: B, e, h, hp => by
  obtain ⟨h1, h2, h3⟩ := hp b List.mem_cons_self
  rw [h.1]
  exact .cons h3 h1 h2 (rst_chain h.2 fun z hz => hp z (List.mem_cons_of_mem _ hz))
/-- where a key stands -/
theorem parts {A : List En} {e : En} {B : List En} (hL : LvOK true (A ++ e :: B)) {key : List UInt8} (h1 : Op.bytesLess key e.r = false) (h2 : ∀ z ∈ B, Op.bytesLess key z.r = true) : (∀ c ∈ cellsOf A, Op.bytesLess c.1 key = true) ∧ (∀ c ∈ cellsOf B, Op.bytesLess key c.1 = true) := by
 have hp := hL.hi
 rw [List.pairwise_append, List.pairwise_cons] at hp
 refine ⟨fun c hc => ?_, fun c hc => ?_⟩
 ·obtain ⟨z, hz, hcz⟩ := List.mem_flatMap.1 hc
  exact blt_lt_le ((hp.2.2 z hz e List.mem_cons_self).2 c hcz) h1
 ·obtain ⟨z, hz, hcz⟩ := List.mem_flatMap.1 hc
  exact blt_lt_le (h2 z hz) ((hL.en z (List.mem_append_right _ (List.mem_cons_of_mem _ hz))).lo c hcz)
theorem geF_all2 {l : List Cel} {key : List UInt8} (h : ∀ c ∈ l, Op.bytesLess key c.1 = true) : geF key l = l ∧ ltF key l = [] ∧ gtF key l = l :=
 ⟨List.filter_eq_self.2 fun c hc => by rw [blt_asymm (h c hc)]; rfl, List.filter_eq_nil_iff.2 fun c hc => by rw [blt_asymm (h c hc)]; decide, List.filter_eq_self.2 h⟩
theorem geF_non {l : List Cel} {key : List UInt8} (h : ∀ c ∈ l, Op.bytesLess c.1 key = true) : geF key l = [] ∧ ltF key l = l ∧ gtF key l = [] :=
 ⟨List.filter_eq_nil_iff.2 fun c hc => by rw [h c hc]; decide, List.filter_eq_self.2 h, List.filter_eq_nil_iff.2 fun c hc => by rw [blt_asymm (h c hc)]; decide⟩
theorem TreeInv.reads {W : PgM} {m : Nat} {l : List Cel} (h : TreeInv W m l) (hl : l.length ≤ 97) : Reads W l := by
 obtain ⟨E, r, hJ, rfl⟩ := h
 obtain ⟨c1, c2⟩ := tree_cnt hJ.lvs hl
 have hm : m ≤ 55 := by rw [← hJ.num]; exact c1
 intro key
 obtain ⟨A, e, B, way, rfl, hS, hk1, hk2, hW, hwl⟩ := down_law key r hJ.lvs (fun z hz => ⟨(hJ.pgs z hz).1, (hJ.pgs z hz).2.1, by have := (hJ.pgs z hz).2.2; omega⟩) hJ.nd
 have hLv := hJ.lvs.head
 have hfl : ∀ z ∈ A ++ e :: B, z ∈ ((A ++ e :: B) :: r).flatten := fun z hz => by rw [List.flatten_cons]; exact List.mem_append_left _ hz
 have hem : e ∈ A ++ e :: B := List.mem_append_right _ List.mem_cons_self
 have heok := hLv.en e hem
 have hep := hJ.pgs e (hfl e hem)
 obtain ⟨pA, pB⟩ := parts hLv hk1 hk2
 have hso := LvOK.sorted hLv.en hLv.hi
 have hB : ∀ z ∈ B, pget z.id W = some z.pg ∧ PgOK z.pg ∧ z.id ≠ 0 := by
  intro z hz
  have hzm : z ∈ A ++ e :: B := List.mem_append_right _ (List.mem_cons_of_mem _ hz)
  have hzp := hJ.pgs z (hfl z hzm)
  refine ⟨hzp.1, (hLv.en z hzm).pg hzp.2.1, fun h0 => ?_⟩
  have hlv := hJ.lvs
  have hnd := hJ.nd
  cases r with
  | nil =>
   obtain ⟨_, e1, q1, q2⟩ := hlv
   have := congrArg List.length q1
   cases B with
   | nil => simp at hz
   | cons b B => simp only [List.length_append, List.length_cons, List.length_nil] at this; omega
  | cons E1 r =>
   obtain ⟨_, _, _, q4⟩ := hlv
   obtain ⟨y, hy, hy0⟩ := q4.root_mem
   rw [List.flatten_cons, ids, List.map_append, List.nodup_append] at hnd
   exact hnd.2.2 z.id (List.mem_map.2 ⟨z, hzm, rfl⟩) y.id (List.mem_map.2 ⟨y, hy, rfl⟩) (h0.trans hy0.symm)
 refine ⟨way, ⟨e.id, 0, e.pg⟩, B.map fun z => z.pg.cells, wayP_way hW hep.1 heok.kind (heok.pg hep.2.1), by omega, heok.pg hep.2.1, rst_chain (chain_suf (hLv.chain rfl)) hB, ?_, fun hk => ?_⟩
 ·rw [drop_lob heok.sort, drop_lob hso, cellsOf_app, cellsOf_cons]
  unfold geF
  rw [List.filter_append, List.filter_append]
  have g1 := (geF_non pA).1
  have g2 := (geF_all2 pB).1
  unfold geF at g1 g2
  rw [g1, g2]
  rfl
 ·obtain ⟨c, hc, rfl⟩ := (keyAt_iff hso key).1 hk
  have hce : c ∈ e.pg.cells := by
   rw [cellsOf_app, cellsOf_cons, List.mem_append, List.mem_append] at hc
   rcases hc with h | h | h
   ·have := pA c h
    rw [blt_irrefl] at this; cases this
   ·exact h
   ·have := pB c h
    rw [blt_irrefl] at this; cases this
  exact ⟨(keyAt_iff heok.sort _).2 ⟨c, hce, rfl⟩, by rw [keyAt_val heok.sort hce, keyAt_val hso (by rw [cellsOf_app, cellsOf_cons]; exact List.mem_append_right _ (List.mem_append_left _ hce))]⟩
theorem putS_le {l : List Cel} (hs : Sorted l) (c : Cel) : (cellsS (putC c l)).length ≤ (cellsS l).length + (cpS c).length := by
 have hta := List.take_append_drop (lob c.1 l) l
 rw [take_lob hs, drop_lob hs, geF_gtF hs] at hta
 have h1 := congrArg (fun x => (cellsS x).length) hta
 simp only [cellsS_app, List.length_append] at h1
 rw [putC_eq hs, show c :: gtF c.1 l = [c] ++ gtF c.1 l from rfl]
 simp only [cellsS_app, List.length_append, cellsS_one]
 omega
theorem TreeInv.zero : TreeInv W0 1 [] := by
 refine ⟨[⟨[], 0, pg0⟩], [], ⟨⟨⟨fun e he => ?_, by simp, ⟨_, _, rfl, rfl⟩, fun _ => rfl, fun h => by simp at h⟩, _, rfl, rfl⟩, fun z hz => ?_, by simp [ids], fun i => ?_, rfl⟩, rfl⟩
 ·rw [List.mem_singleton] at he
  subst he
  exact ⟨rfl, trivial, fun c hc => by simp [pg0] at hc, fun c hc => by simp [pg0] at hc, by simp [pg0], fun h => (by cases h), by simp⟩
 ·simp at hz
  subst hz
  exact ⟨rfl, pg0_ok.size, by simp⟩
 ·by_cases h : i = 0
  ·subst h; rfl
  ·simp [W0, pget, h]
theorem TreeInv.put {W : PgM} {m : Nat} {l : List Cel} (h : TreeInv W m l) (hl : l.length ≤ 97) (c : Cel) (h1 : c.1.length ≤ 139) (h2 : c.2.length ≤ 257) : ∃ W' m', Put1 W m c W' m' ∧ TreeInv W' m' (putC c l) := by
 obtain ⟨E, r, hJ, rfl⟩ := h
 obtain ⟨c1, c2⟩ := tree_cnt hJ.lvs hl
 have hm : m ≤ 55 := by rw [← hJ.num]; exact c1
 obtain ⟨A, e, B, way, rfl, hS, hk1, hk2, hW, hwl⟩ := down_law c.1 r hJ.lvs (fun z hz => ⟨(hJ.pgs z hz).1, (hJ.pgs z hz).2.1, by have := (hJ.pgs z hz).2.2; omega⟩) hJ.nd
 have hLv := hJ.lvs.head
 have hfl : ∀ z ∈ A ++ e :: B, z ∈ ((A ++ e :: B) :: r).flatten := fun z hz => by rw [List.flatten_cons]; exact List.mem_append_left _ hz
 have hem : e ∈ A ++ e :: B := List.mem_append_right _ List.mem_cons_self
 have heok := hLv.en e hem
 have hep := hJ.pgs e (hfl e hem)
 obtain ⟨pA, pB⟩ := parts hLv hk1 hk2
 have hso := LvOK.sorted hLv.en hLv.hi
 obtain ⟨x, hx⟩ : ∃ x : Pg, x = ⟨e.pg.leaf, e.pg.next, putC c e.pg.cells⟩ := ⟨_, rfl⟩
 have hcin : ∀ y ∈ x.cells, y = c ∨ y ∈ e.pg.cells := fun y hy => by
  rw [hx] at hy
  rcases (putC_mem heok.sort _ y).1 hy with h | ⟨h, _⟩
  ·exact .inl h
  ·exact .inr h
 have hxok : EnOK true (enw e x) := by
  refine ⟨by rw [enw, hx]; exact heok.kind, by rw [enw, hx]; exact putC_sorted heok.sort _, fun y hy => ?_, fun y hy => ?_, by rw [enw, hx]; exact heok.nx, fun h => (by cases h), heok.rl⟩
  ·rcases hcin y hy with rfl | hy
   ·exact hk1
   ·exact heok.lo y hy
  ·rcases hcin y hy with rfl | hy
   ·exact ⟨h1, by simpa using h2⟩
   ·exact heok.csz y hy
 have hp := hLv.hi
 rw [List.pairwise_append, List.pairwise_cons] at hp
 have hLx : LvOK true (A ++ enw e x :: B) := hLv.put hxok (by rw [hx]) (fun z hz y hy => by
  rcases hcin y hy with rfl | hy
  ·exact hk2 z hz
  ·exact (hp.2.1.1 z hz).2 y hy) (by rw [hx]; have := putC_len heok.sort c; simp only; omega)
 have hLsx : LvsOK true ((A ++ enw e x :: B) :: r) := by
  have hlv := hJ.lvs
  cases r with
  | nil =>
   obtain ⟨_, e1, q1, q2⟩ := hlv
   refine ⟨hLx, ?_⟩
   cases A with
   | nil =>
    injection q1 with q1 q3
    refine ⟨enw e x, by rw [q3]; rfl, ?_⟩
    rw [show (enw e x).id = e.id from rfl, q1]; exact q2
   | cons a A => injection q1 with q1 q3; simp at q3
  | cons E1 r =>
   obtain ⟨_, q2, q3, q4⟩ := hlv
   refine ⟨hLx, by simpa using q2, ?_, q4⟩
   rw [q3]; simp [cellOf, enw]
 have hidx : ids ((A ++ enw e x :: B) :: r).flatten = ids ((A ++ e :: B) :: r).flatten := by simp [ids, enw]
 have hlen : ((A ++ enw e x :: B) :: r).flatten.length = ((A ++ e :: B) :: r).flatten.length := by simp
 obtain ⟨W', m', Ls, hU⟩ := up_law r (hS.put (x := x)) hLsx (fun z hz => by
   have hz2 : z ∈ ((A ++ e :: B) :: r).flatten := by
    rw [List.flatten_cons]
    simp only [List.mem_append, List.mem_cons] at hz ⊢
    rcases hz with (h | h) | h
    ·exact .inl (.inl h)
    ·exact .inl (.inr (.inr h))
    ·exact .inr h
   exact ⟨(hJ.pgs z hz2).1, (hJ.pgs z hz2).2.1⟩) (fun z hz => by
   have : z.id ∈ ids ((A ++ enw e x :: B) :: r).flatten := List.mem_map.2 ⟨z, hz, rfl⟩
   rw [hidx] at this
   obtain ⟨z', hz', he⟩ := List.mem_map.1 this
   have h3 := (hJ.pgs z' hz').2.2
   have he2 : z'.id = z.id := he
   omega) (by rw [hidx]; exact hJ.nd) hJ.cnt (by omega) (by
   rw [show (enw e x).pg.cells = putC c e.pg.cells from by rw [enw, hx]]
   have h3 := putS_le heok.sort c
   have h4 := page_cells hep.2.1
   have h5 := cp_le h1 h2 (by omega) (by omega)
   omega)
 obtain ⟨E0, Lr, q1, q2⟩ := hU.low
 have hlv := hU.lvs
 have hpg := hU.pgs
 have hnd := hU.nd
 have hnu := hU.num
 rw [hlen, hJ.num] at hnu
 rw [q1] at hlv hpg hnd hnu
 refine ⟨W', m', ⟨hJ.cnt, by omega, by omega, by omega, ⟨way, ⟨e.id, 0, e.pg⟩, wayP_way hW hep.1 heok.kind (heok.pg hep.2.1), by omega, heok.pg hep.2.1, by have := hep.2.2; simp only; omega, ?_⟩, hU.cnt⟩, E0, Lr, ⟨hlv, hpg, hnd, hU.cnt, by omega⟩, ?_⟩
 ·have := hU.up
  rw [show (enw e x).pg = x from rfl, hx] at this
  exact this
 ·rw [q2, putC_eq hso, cellsOf_app, cellsOf_cons, cellsOf_app, cellsOf_cons, show (enw e x).pg.cells = putC c e.pg.cells from by rw [enw, hx], putC_eq heok.sort]
  unfold ltF gtF
  rw [List.filter_append, List.filter_append, List.filter_append, List.filter_append]
  obtain ⟨_, a2, a3⟩ := geF_non pA
  obtain ⟨_, b2, b3⟩ := geF_all2 pB
  unfold ltF at a2 b2
  unfold gtF at a3 b3
  rw [a2, a3, b2, b3]
  simp

/-! ### the database: cells and tree -/
theorem comL_sz {n : Nat} {ws : List Wt} (h : chk ws = 0) (hn : n ≤ 1000000) : ∀ c ∈ comL n ws, c.1.length ≤ 139 ∧ c.2.length ≤ 257 := by
 intro c hc
 rw [comL] at hc
 rcases List.mem_cons.1 hc with rfl | hc
 ·have h1 := vput_10 n (by omega)
  have h2 := vput_10 0 (by omega)
  simp only [titC, List.length_append, List.length_singleton]
  omega
 ·obtain ⟨w, hw, rfl⟩ := List.mem_map.1 hc
  have hw := chk_w h hw
  have h1 := hw.k1
  have h2 := hw.v1
  have h3 := esc_len w.1
  have h4 : (vval w).length ≤ 257 := by
   unfold vval
   split
   ·simp
   ·rw [List.length_cons]; omega
  have h5 : (vkey w.1 n).length ≤ 139 := by
   unfold vkey keyS
   simp only [List.length_cons, List.length_append, List.length_nil, be8_len]
   omega
  exact ⟨h5, h4⟩
theorem putL_mono : ∀ {cs l : List Cel}, Sorted l → l.length ≤ (putL cs l).length
 | [], l, _ => Nat.le_refl _
 | c :: cs, l, h => by
  have h1 := putL_mono (cs := cs) (putC_sorted h c)
  have h2 := putC_len h c
  rw [show putL (c :: cs) l = putL cs (putC c l) from rfl]
  omega
theorem puts_law : ∀ {cs : List Cel} {W : PgM} {m : Nat} {l : List Cel}, TreeInv W m l → Sorted l → (putL cs l).length ≤ 97 → (∀ c ∈ cs, c.1.length ≤ 139 ∧ c.2.length ≤ 257) → ∃ W' m', Puts W m cs W' m' ∧ TreeInv W' m' (putL cs l)
 | [], W, m, l, h, _, _, _ => ⟨W, m, .nil _ _, h⟩
 | c :: cs, W, m, l, h, hs, hl, hc => by
  have h1 := putL_mono (cs := c :: cs) hs
  obtain ⟨hc1, hc2⟩ := hc c List.mem_cons_self
  obtain ⟨W1, m1, p1, p2⟩ := h.put (by omega) c hc1 hc2
  obtain ⟨W2, m2, q1, q2⟩ := puts_law (cs := cs) p2 (putC_sorted hs c) hl fun x hx => hc x (List.mem_cons_of_mem _ hx)
  exact ⟨W2, m2, .cons p1 q1, q2⟩
structure DbT (ds : List Bt) (W : PgM) (m : Nat) (l : List Cel) : Prop where
 li : LI ds l
 tr : TreeInv W m l
 le : ds.length ≤ 12
theorem DbT.len {ds : List Bt} {W : PgM} {m : Nat} {l : List Cel} (h : DbT ds W m l) : l.length ≤ 97 := by
 have h1 := h.li.len
 have h2 := h.le
 split at h1 <;> omega
theorem TreeInv.cnt {W : PgM} {m : Nat} {l : List Cel} (h : TreeInv W m l) (hl : l.length ≤ 97) : Cnt W m ∧ m ≤ 55 := by
 obtain ⟨E, r, hJ, rfl⟩ := h
 have := (tree_cnt hJ.lvs hl).1
 rw [hJ.num] at this
 exact ⟨hJ.cnt, this⟩
theorem DbT.zero : DbT [] W0 1 [] := ⟨LI.zero, TreeInv.zero, by simp⟩
theorem DbT.fact {ds : List Bt} {W : PgM} {m : Nat} {l : List Cel} (h : DbT ds W m l) : DbF ds W m l := by
 have hl := h.len
 obtain ⟨c1, c2⟩ := h.tr.cnt hl
 have hd := h.le
 exact ⟨h.tr.reads hl, by omega, h.li.db (by omega), c1, by omega, fun key at_ _ hat => h.li.get (by omega) key at_ hat, fun at_ hat => h.li.scan (by omega) at_ hat⟩
theorem DbT.step {ds : List Bt} {W : PgM} {m : Nat} {l : List Cel} (h : DbT ds W m l) (b : Bt) (hd : ds.length < 12) (hc : chk b.2.2.2 = 0) : ∃ W' m' l', Puts W m (comL (ds.length + 1) b.2.2.2) W' m' ∧ DbT (ds ++ [b]) W' m' l' := by
 have hli := h.li.step b hc (by omega)
 have hlen := hli.len
 rw [if_neg (by simp)] at hlen
 simp only [List.length_append, List.length_singleton] at hlen
 obtain ⟨W', m', p1, p2⟩ := puts_law (cs := comL (ds.length + 1) b.2.2.2) h.tr h.li.so (by omega) (comL_sz hc (by omega))
 exact ⟨W', m', _, p1, hli, p2, by simp; omega⟩
theorem runs_snoc {W : PgM} {m : Nat} {css : List (List Cel)} {W1 : PgM} {m1 : Nat} {cs : List Cel} {W2 : PgM} {m2 : Nat} (h : Runs W m css W1 m1) (h0 : Cnt W1 m1) (h1 : m1 ≤ 64) (h2 : cs.length ≤ 9) (h3 : ∀ c ∈ cs, c.1.length ≤ 240 ∧ c.1.length + c.2.length ≤ 480) (h4 : Puts W1 m1 cs W2 m2) : Runs W m (css ++ [cs]) W2 m2 := by
 induction h with
 | nil => exact .cons h0 h1 h2 h3 h4 (.nil _ _)
 | cons a0 a1 a2 a3 a4 _ ih => exact .cons a0 a1 a2 a3 a4 (ih h0 h1 h4)
theorem comsL_snoc (b : Bt) : ∀ (ds : List Bt) (n : Nat), comsL n (ds ++ [b]) = comsL n ds ++ [comL (n + ds.length) b.2.2.2]
 | [], n => rfl
 | d :: ds, n => by
  rw [List.cons_append, comsL, comsL, comsL_snoc b ds (n + 1), List.cons_append, List.length_cons, show n + 1 + ds.length = n + (ds.length + 1) by omega]
/-- the first commits, run anew -/
theorem runs_law (ds : List Bt) (hd : ds.length ≤ 12) (hc : ∀ b ∈ ds, chk b.2.2.2 = 0) : ∀ k, k ≤ ds.length → ∃ W m l, Runs W0 1 (comsL 1 (ds.take k)) W m ∧ DbT (ds.take k) W m l
 | 0, _ => ⟨W0, 1, [], by rw [List.take_zero]; exact ⟨.nil _ _, DbT.zero⟩⟩
 | k + 1, hk => by
  obtain ⟨W, m, l, h1, h2⟩ := runs_law ds hd hc k (by omega)
  have hlt : k < ds.length := by omega
  have hb := hc _ (List.getElem_mem hlt)
  have hkl : (ds.take k).length = k := by rw [List.length_take]; omega
  obtain ⟨W', m', l', p1, p2⟩ := h2.step ds[k] (by omega) hb
  have hF := h2.fact
  rw [List.take_succ_eq_append_getElem hlt]
  refine ⟨W', m', l', ?_, p2⟩
  rw [comsL_snoc]
  rw [hkl] at p1 ⊢
  rw [Nat.add_comm 1 k]
  exact runs_snoc h1 hF.cnt hF.m64 (by rw [comL, List.length_cons, List.length_map]; have := chk_len hb; omega) (comL_size hb (by omega)) p1

/-! ### what a cut stream of records holds -/
theorem pre_split {α : Type} {a b T : List α} (h : T <+: a ++ b) : (T <+: a ∧ T.length < a.length) ∨ ∃ T', T = a ++ T' ∧ T' <+: b := by
 by_cases hl : T.length < a.length
 ·exact .inl ⟨List.prefix_of_prefix_length_le h (List.prefix_append a b) (by omega), hl⟩
 ·obtain ⟨T', rfl⟩ := List.prefix_of_prefix_length_le (List.prefix_append a b) h (by omega)
  exact .inr ⟨T', rfl, (List.prefix_append_right_inj a).1 h⟩
theorem noRec_nil : NoRec [] := .inl (by simp)
theorem noRec_pre {n : Nat} {b T : List UInt8} (hb : b.length ≤ 40000) (hn : n < 18446744073709551616) (h : T <+: recS n b) (hl : T.length < (recS n b).length) : NoRec T := by
 by_cases h4 : T.length < 4
 ·exact .inl h4
 ·have hf := field_len n b hn hb
  have hs := seal_len (fieldS n b)
  have hr : recS n b = be4 (sealS (fieldS n b)).length ++ sealS (fieldS n b) := rfl
  have hrl : (recS n b).length = 4 + (sealS (fieldS n b)).length := by rw [hr, List.length_append, be4_len]
  have ht : T.take 4 = be4 (sealS (fieldS n b)).length := by
   obtain ⟨u, hu⟩ := h
   have h1 : (T ++ u).take 4 = T.take 4 := List.take_append_of_le_length (by omega)
   rw [← h1, hu, hr, List.take_append_of_le_length (by rw [be4_len]; exact Nat.le_refl _), List.take_of_length_le (by rw [be4_len]; exact Nat.le_refl _)]
  refine .inr ⟨by omega, ?_⟩
  rw [ht, unbe_be4 (by omega)]
  omega
theorem rec_parse : ∀ {ds : List (List UInt8)} {f : Nat} {T : List UInt8}, (∀ b ∈ ds, b.length ≤ 40000) → f + ds.length < 1000000 → T <+: recBytes f ds →
  ∃ r tail, r ≤ ds.length ∧ T = recBytes f (ds.take r) ++ tail ∧ NoRec tail ∧ ∀ r0, r0 ≤ ds.length → (recBytes f (ds.take r0)).length ≤ T.length → r0 ≤ r
 | [], f, T, _, _, h => by
  have : T = [] := List.prefix_nil.1 h
  subst this
  exact ⟨0, [], Nat.le_refl _, rfl, noRec_nil, fun r0 h0 _ => h0⟩
 | b :: ds, f, T, hb, hf, h => by
  rw [List.length_cons] at hf
  rw [recBytes] at h
  rcases pre_split h with ⟨h1, h2⟩ | ⟨T', rfl, h1⟩
  ·refine ⟨0, T, Nat.zero_le _, rfl, noRec_pre (hb b List.mem_cons_self) (by omega) h1 h2, fun r0 h0 h3 => ?_⟩
   cases r0 with
   | zero => exact Nat.le_refl _
   | succ r0 =>
    rw [List.take_succ_cons, recBytes, List.length_append] at h3
    omega
  ·obtain ⟨r, tail, p1, p2, p3, p4⟩ := rec_parse (ds := ds) (f := f + 1) (fun x hx => hb x (List.mem_cons_of_mem _ hx)) (by omega) h1
   refine ⟨r + 1, tail, by rw [List.length_cons]; omega, by rw [List.take_succ_cons, recBytes, List.append_assoc, ← p2], p3, fun r0 h0 h3 => ?_⟩
   cases r0 with
   | zero => omega
   | succ r0 =>
    rw [List.length_cons] at h0
    rw [List.take_succ_cons, recBytes, List.length_append, List.length_append] at h3
    have := p4 r0 (by omega) (by omega)
    omega
/-- a segment's stream -/
def strS (f : Nat) (ds : List (List UInt8)) : List UInt8 := recS f titleS ++ recBytes f ds
/-- what is found in a cut stream -/
theorem seg_parse {v : Sec} {i f : Nat} {ds : List (List UInt8)} (hb : ∀ b ∈ ds, b.length ≤ 32768) (hf : f + ds.length < 1000000) (h : segB v i 0 16 <+: strS f ds) :
  ∃ x : Option (Nat × List (List UInt8)), SegIs v i x ∧ (x = none ∨ ∃ r, r ≤ ds.length ∧ x = some (f, ds.take r)) ∧ ∀ r0, r0 ≤ ds.length → (strS f (ds.take r0)).length ≤ (segB v i 0 16).length → ∃ r, r0 ≤ r ∧ r ≤ ds.length ∧ x = some (f, ds.take r) := by
 rcases pre_split h with ⟨h1, h2⟩ | ⟨T', h0, h1⟩
 ·refine ⟨none, noRec_pre (by decide) (by omega) h1 h2, .inl rfl, fun r0 _ h3 => ?_⟩
  rw [strS, List.length_append] at h3
  omega
 ·obtain ⟨r, tail, p1, p2, p3, p4⟩ := rec_parse (fun b hbm => by have := hb b hbm; omega) hf h1
  refine ⟨some (f, ds.take r), ⟨tail, by rw [h0, p2], p3, by simp only [List.length_take]; omega, fun b hbm => hb b (List.mem_of_mem_take hbm)⟩, .inr ⟨r, p1, rfl⟩, fun r0 hr0 h3 => ⟨r, ?_, p1, rfl⟩⟩
  refine p4 r0 hr0 ?_
  rw [h0, strS, List.length_append, List.length_append] at h3
  omega

/-! ### sectors that hold prefixes of a stream's chunks -/
/-- segment j: each sector holds a prefix of its chunk of S, no shorter than its chunk of S0 -/
def SecPre (v : Sec) (j : Nat) (S0 S : List UInt8) : Prop := ∀ k, k < 16 → (sget (802 + 16 * j + k) v = none ∧ chunk S0 k = []) ∨ ∃ p, sget (802 + 16 * j + k) v = some p ∧ p <+: chunk S k ∧ chunk S0 k <+: p
theorem chunk_drop (S : List UInt8) (k : Nat) : S.drop (512 * k) = chunk S k ++ S.drop (512 * (k + 1)) := by
 have := (List.take_append_drop 512 (S.drop (512 * k))).symm
 rw [List.drop_drop] at this
 rw [chunk, show 512 * (k + 1) = 512 * k + 512 by omega]
 exact this
theorem chunk_min (S : List UInt8) (k : Nat) : (chunk S k).length = min 512 (S.length - 512 * k) := by
 rw [chunk, List.length_take, List.length_drop]
theorem segB_pre {v : Sec} {j : Nat} {S0 S : List UInt8} (h : SecPre v j S0 S) : ∀ (n k : Nat), k + n ≤ 16 → segB v j k n <+: S.drop (512 * k)
 | 0, k, _ => by rw [segB]; exact List.nil_prefix
 | n + 1, k, hk => by
  rw [segB]
  rcases h k (by omega) with ⟨h1, _⟩ | ⟨p, h1, h2, _⟩
  ·rw [h1]; exact List.nil_prefix
  ·rw [h1]
   simp only
   rw [chunk_drop]
   split
   ·rw [List.append_nil]
    exact h2.trans (List.prefix_append _ _)
   ·have hl := h2.length_le
    have hc := chunk_min S k
    have he : p = chunk S k := h2.eq_of_length (by omega)
    rw [he]
    exact (List.prefix_append_right_inj _).2 (segB_pre h n (k + 1) (by omega))
theorem segB_ge {v : Sec} {j : Nat} {S0 S : List UInt8} (h : SecPre v j S0 S) : ∀ (n k : Nat), k + n ≤ 16 → S0.length ≤ 512 * (k + n) → S0.length - 512 * k ≤ (segB v j k n).length
 | 0, k, _, hl => by omega
 | n + 1, k, hk, hl => by
  rw [segB]
  have hc0 := chunk_min S0 k
  rcases h k (by omega) with ⟨h1, h2⟩ | ⟨p, h1, h2, h3⟩
  ·rw [h2] at hc0
   simp at hc0
   omega
  ·rw [h1]
   simp only
   have hl3 := h3.length_le
   have ih := segB_ge h n (k + 1) (by omega) (by omega)
   rw [List.length_append]
   split
   ·rw [List.length_nil]
    omega
   ·omega
theorem SecPre.segB_all {v : Sec} {j : Nat} {S0 S : List UInt8} (h : SecPre v j S0 S) (hl : S0.length ≤ 8192) : segB v j 0 16 <+: S ∧ S0.length ≤ (segB v j 0 16).length := by
 have h1 := segB_pre h 16 0 (by omega)
 have h2 := segB_ge h 16 0 (by omega) (by omega)
 rw [Nat.mul_zero, List.drop_zero] at h1
 exact ⟨h1, by omega⟩
/-- a torn write -/
theorem torn_pre {n : Int} {b old c : List UInt8} (h1 : old <+: b) (h2 : b <+: c) : torn n b old <+: c ∧ old <+: torn n b old := by
 unfold torn
 split
 ·rename_i hn
  by_cases ho : n.toNat < old.length
  ·have he : b.take n.toNat ++ old.drop n.toNat = old := by
    obtain ⟨u, rfl⟩ := h1
    rw [List.take_append_of_le_length (by omega), List.take_append_drop]
   rw [he]
   exact ⟨h1.trans h2, List.prefix_refl _⟩
  ·rw [List.drop_of_length_le (by omega), List.append_nil]
   refine ⟨(List.take_prefix _ _).trans h2, ?_⟩
   exact List.prefix_of_prefix_length_le h1 (List.take_prefix _ _) (by rw [List.length_take]; omega)
 ·rw [List.append_nil, List.take_of_length_le (by omega)]
  exact ⟨h2, h1⟩

/-! ### a crash leaves each sector between what was synced and what was written -/
/-- each write lengthens what stands there -/
def ChainW : Sec → List (Nat × List UInt8) → Prop
 | _, [] => True
 | v, w :: r => sgetD w.1 v <+: w.2 ∧ ChainW (sput w.1 w.2 v) r
theorem getD_sput (q k : Nat) (x : List UInt8) (v : Sec) : sgetD q (sput k x v) = if q = k then x else sgetD q v := by
 unfold sgetD
 rw [sget_sput]
 split <;> rfl
theorem crash_between {sv : List (Int × Int)} : ∀ {P : List (Nat × List UInt8)} {i : Nat} {st cur : Sec}, (∀ q, sgetD q st <+: sgetD q cur) → ChainW cur P → ∀ q, sgetD q st <+: sgetD q (crashG sv i st P) ∧ sgetD q (crashG sv i st P) <+: sgetD q (applyW cur P)
 | [], i, st, cur, h, _, q => ⟨List.prefix_refl _, h q⟩
 | w :: r, i, st, cur, h, hc, q => by
  rw [crashG, show applyW cur (w :: r) = applyW (sput w.1 w.2 cur) r from rfl]
  have h1 : ∀ q, sgetD q st <+: sgetD q (crash1 sv i st w) ∧ sgetD q (crash1 sv i st w) <+: sgetD q (sput w.1 w.2 cur) := by
   intro q
   have hsq : sgetD q st <+: sgetD q (sput w.1 w.2 cur) := by
    rw [getD_sput]
    split
    ·rename_i hq
     subst hq
     exact (h _).trans hc.1
    ·exact h q
   unfold crash1
   split
   ·rename_i n _
    rw [getD_sput (k := w.1) (x := torn n w.2 (sgetD w.1 st))]
    split
    ·rename_i hq
     subst hq
     have ht := torn_pre (n := n) (c := w.2) ((h w.1).trans hc.1) (List.prefix_refl _)
     refine ⟨ht.2, ?_⟩
     rw [getD_sput, if_pos rfl]
     exact ht.1
    ·exact ⟨List.prefix_refl _, hsq⟩
   ·exact ⟨List.prefix_refl _, hsq⟩
  have ih := crash_between (sv := sv) (P := r) (i := i + 1) (fun q => (h1 q).2) hc.2 q
  exact ⟨(h1 q).1.trans ih.1, ih.2⟩

/-! ### what is found, and what is taken of it -/
abbrev Bod := List (List UInt8)
def FOK (F : Nat → Option (Nat × Bod)) : Nat → Nat → List Bod → Nat → Prop
 | k, _, [], u => u = 0 ∧ ∀ j, k ≤ j → j < 8 → F j = none
 | k, f, ds :: SG, u => ds ≠ [] ∧ ((F k = none ∧ u = 0) ∨ ∃ r, r ≤ ds.length ∧ F k = some (f, ds.take r) ∧ min u ds.length ≤ r) ∧ FOK F (k + 1) (f + ds.length) SG (u - ds.length)
def fnd1 (F : Nat → Option (Nat × Bod)) (k : Nat) : List Fnd := match F k with | none => [] | some x => [(k, x.1, x.2)]
def foundR (F : Nat → Option (Nat × Bod)) : Nat → Nat → List Fnd
 | _, 0 => []
 | k, n + 1 => fnd1 F k ++ foundR F (k + 1) n
theorem foundR_snoc (F : Nat → Option (Nat × Bod)) : ∀ (n k : Nat), foundR F k (n + 1) = foundR F k n ++ fnd1 F (k + n)
 | 0, k => by simp [foundR]
 | n + 1, k => by
  rw [foundR, foundR_snoc F n (k + 1), ← List.append_assoc, foundR, show k + 1 + n = k + (n + 1) by omega]
theorem foundL_R (F : Nat → Option (Nat × Bod)) : ∀ n, foundL F n = foundR F 0 n
 | 0 => rfl
 | n + 1 => by
  rw [foundR_snoc, foundL, foundL_R F n, Nat.zero_add]; rfl
theorem found_none (F : Nat → Option (Nat × Bod)) : ∀ (n k : Nat), (∀ j, k ≤ j → j < k + n → F j = none) → foundR F k n = []
 | 0, _, _ => rfl
 | n + 1, k, h => by
  rw [foundR, fnd1, h k (Nat.le_refl _) (by omega), found_none F n (k + 1) fun j h1 h2 => h j (by omega) (by omega)]; rfl
/-- all that is found stands in its order -/
theorem found_ord {F : Nat → Option (Nat × Bod)} : ∀ {SG : List Bod} {k f u n : Nat}, FOK F k f SG u → k + n = 8 → (∀ x ∈ foundR F k n, k ≤ x.1 ∧ f ≤ x.2.1 ∧ x.2.1 + x.2.2.length ≤ f + SG.flatten.length) ∧ (foundR F k n).Pairwise (fun a b => a.1 < b.1 ∧ a.2.1 < b.2.1 ∧ a.2.1 + a.2.2.length ≤ b.2.1) ∧ (foundR F k n).length ≤ n
 | [], k, f, u, n, h, hk => by
  rw [found_none F n k fun j h1 h2 => h.2 j h1 (by omega)]
  simp
 | ds :: SG, k, f, u, 0, h, hk => by simp [foundR]
 | ds :: SG, k, f, u, n + 1, h, hk => by
  obtain ⟨h1, h2, h3⟩ := h
  obtain ⟨a1, a2, a3⟩ := found_ord (n := n) h3 (by omega)
  have hpos : 0 < ds.length := List.length_pos_iff.2 h1
  rw [foundR, List.flatten_cons, List.length_append]
  have hx : ∀ x ∈ fnd1 F k, x.1 = k ∧ x.2.1 = f ∧ x.2.2.length ≤ ds.length := by
   intro x hx
   unfold fnd1 at hx
   rcases h2 with ⟨h2, _⟩ | ⟨r, h4, h2, _⟩
   ·rw [h2] at hx; simp at hx
   ·rw [h2] at hx
    simp at hx
    subst hx
    exact ⟨rfl, rfl, by simp; omega⟩
  have hl1 : (fnd1 F k).length ≤ 1 := by unfold fnd1; split <;> simp
  refine ⟨fun x hxm => ?_, ?_, by rw [List.length_append]; omega⟩
  ·rcases List.mem_append.1 hxm with hm | hm
   ·obtain ⟨b1, b2, b3⟩ := hx x hm
    omega
   ·obtain ⟨b1, b2, b3⟩ := a1 x hm
    omega
  ·rw [List.pairwise_append]
   refine ⟨?_, a2, fun a ha b hb => ?_⟩
   ·unfold fnd1; split <;> simp
   ·obtain ⟨b1, b2, b3⟩ := hx a ha
    obtain ⟨c1, c2, c3⟩ := a1 b hb
    omega
def takeC (f : Nat) (L : List Fnd) : List Fnd := if (match L with | [] => false | x :: _ => x.2.1 == f) then L.take (chainN L) else []

theorem recList_snd : ∀ (ds : Bod) (f : Nat), (recList f ds).map Prod.snd = ds
 | [], _ => rfl
 | b :: r, f => by rw [recList, List.map_cons, recList_snd r]
theorem take_app_all {α : Type} {a b : List α} {r : Nat} : (a ++ b).take (a.length + r) = a ++ b.take r := List.take_length_add_append r
/-- what is taken is a first part of all, no shorter than what was synced -/
theorem take_law {F : Nat → Option (Nat × Bod)} : ∀ {SG : List Bod} {k f u n : Nat}, FOK F k f SG u → k + n = 8 → SG.length ≤ n → u ≤ SG.flatten.length → ∃ r, u ≤ r ∧ r ≤ SG.flatten.length ∧ (outL (takeC f (foundR F k n))).map Prod.snd = SG.flatten.take r
 | [], k, f, u, n, h, hk, _, hu => by
  rw [found_none F n k fun j h1 h2 => h.2 j h1 (by omega)]
  exact ⟨0, by simp at hu; omega, by simp, by simp [takeC, outL]⟩
 | ds :: SG, k, f, u, 0, h, hk, hn, hu => by simp at hn
 | ds :: SG, k, f, u, n + 1, h, hk, hn, hu => by
  obtain ⟨h1, h2, h3⟩ := h
  rw [List.length_cons] at hn
  rw [List.flatten_cons, List.length_append] at hu ⊢
  have hpos : 0 < ds.length := List.length_pos_iff.2 h1
  obtain ⟨o1, o2, o3⟩ := found_ord (n := n) h3 (by omega)
  obtain ⟨r', p1, p2, p3⟩ := take_law (n := n) h3 (by omega) (by omega) (by omega)
  rcases h2 with ⟨h2, hu0⟩ | ⟨r0, h4, h2, h5⟩
  ·refine ⟨0, by omega, by omega, ?_⟩
   rw [foundR, fnd1, h2, List.nil_append, List.take_zero]
   have : takeC f (foundR F (k + 1) n) = [] := by
    cases hL : foundR F (k + 1) n with
    | nil => rfl
    | cons x L =>
     rw [hL] at o1
     have := (o1 x List.mem_cons_self).2.1
     rw [takeC, if_neg]
     simp only [beq_iff_eq]
     omega
   rw [this]; rfl
  ·rw [foundR, fnd1, h2]
   have hstop : ∀ L : List Fnd, chainN ((k, f, ds.take r0) :: L) = 1 → (outL (takeC f ((k, f, ds.take r0) :: L))).map Prod.snd = (ds ++ SG.flatten).take r0 := by
    intro L hc
    rw [takeC, if_pos (by simp), hc]
    simp only [List.take_succ_cons, List.take_zero, outL, List.flatMap_cons, List.flatMap_nil, List.append_nil]
    rw [recList_snd, List.take_append_of_le_length h4]
   simp only [List.singleton_append]
   cases hL : foundR F (k + 1) n with
   | nil =>
    refine ⟨r0, ?_, by omega, hstop [] rfl⟩
    by_cases hul : u ≤ ds.length
    ·omega
    ·exfalso
     cases SG with
     | nil => simp at hu; omega
     | cons d2 SG =>
      obtain ⟨g1, g2, g3⟩ := h3
      rcases g2 with ⟨_, g2⟩ | ⟨r2, _, g2, _⟩
      ·omega
      ·cases n with
       | zero => simp at hn
       | succ n =>
        rw [foundR, fnd1, g2] at hL
        simp at hL
   | cons g L =>
    rw [hL] at o1 p3
    have hg := o1 g List.mem_cons_self
    by_cases hgf : g.2.1 = f + ds.length
    ·by_cases hr : r0 = ds.length
     ·refine ⟨ds.length + r', by omega, by omega, ?_⟩
      have hds : ds.take r0 = ds := List.take_of_length_le (by omega)
      rw [hds, take_app_all, ← p3, takeC, takeC, if_pos (by simp), if_pos (by simpa using hgf)]
      have hc : chainN ((k, f, ds) :: g :: L) = chainN (g :: L) + 1 := by rw [chainN, if_pos hgf]
      rw [hc, List.take_succ_cons]
      simp only [outL, List.flatMap_cons, List.map_append]
      rw [recList_snd]
     ·refine ⟨r0, by omega, by omega, hstop _ ?_⟩
      rw [chainN, if_neg]
      simp only [List.length_take]
      omega
    ·refine ⟨r0, ?_, by omega, hstop _ ?_⟩
     ·by_cases hul : u ≤ ds.length
      ·omega
      ·exfalso
       cases SG with
       | nil => simp at hu; omega
       | cons d2 SG =>
        obtain ⟨g1, g2, g3⟩ := h3
        rcases g2 with ⟨_, g2⟩ | ⟨r2, _, g2, _⟩
        ·omega
        ·cases n with
         | zero => simp at hn
         | succ n =>
          rw [foundR, fnd1, g2] at hL
          injection hL with hL _
          rw [← hL] at hgf
          exact hgf rfl
     ·rw [chainN, if_neg]
      simp only [List.length_take]
      omega
theorem found_law {F : Nat → Option (Nat × Bod)} {SG : List Bod} {u : Nat} (h : FOK F 0 1 SG u) (hn : SG.length ≤ 8) (hu : u ≤ SG.flatten.length) (hl : SG.flatten.length ≤ 1000) :
  AllOK (foundL F 8) ∧ ∃ r, u ≤ r ∧ r ≤ SG.flatten.length ∧ (outL ((foundL F 8).take (takenN (foundL F 8)))).map Prod.snd = SG.flatten.take r := by
 obtain ⟨o1, o2, o3⟩ := found_ord (n := 8) h rfl
 obtain ⟨r, p1, p2, p3⟩ := take_law (n := 8) h rfl hn hu
 rw [foundL_R]
 refine ⟨⟨o3, ?_, fun f hf => ?_, o2.imp fun h => h.2⟩, r, p1, p2, ?_⟩
 ·rw [List.Nodup, List.pairwise_map]
  exact o2.imp fun h => by have := h.1; omega
 ·have := o1 f hf
  omega
 ·rw [← p3]
  cases foundR F 0 8 with
  | nil => rfl
  | cons x L =>
   simp only [takeC, takenN]
   split <;> rfl

/-! ### the writes of an append -/
theorem applyW_congr : ∀ {P : List (Nat × List UInt8)} {v v' : Sec}, (∀ q, sgetD q v = sgetD q v') → ∀ q, sgetD q (applyW v P) = sgetD q (applyW v' P)
 | [], v, v', h, q => h q
 | w :: r, v, v', h, q => applyW_congr (P := r) (v := sput w.1 w.2 v) (v' := sput w.1 w.2 v') (fun q => by
   rw [getD_sput, getD_sput, h q]) q
theorem chain_congr : ∀ {P : List (Nat × List UInt8)} {v v' : Sec}, (∀ q, sgetD q v = sgetD q v') → ChainW v P → ChainW v' P
 | [], v, v', h, _ => trivial
 | w :: r, v, v', h, hc => ⟨by rw [← h]; exact hc.1, chain_congr (fun q => by rw [getD_sput, getD_sput, h q]) hc.2⟩
theorem chain_app : ∀ {P Q : List (Nat × List UInt8)} {v : Sec}, ChainW v P → ChainW (applyW v P) Q → ChainW v (P ++ Q)
 | [], Q, v, _, h => h
 | w :: r, Q, v, h, h2 => ⟨h.1, chain_app h.2 h2⟩
theorem segW_get (i : Nat) (b : List UInt8) : ∀ (n k : Nat) (v : Sec) (q : Nat), sgetD q (applyW v (segW i b k n)) = if 802 + 16 * i + k ≤ q ∧ q < 802 + 16 * i + k + n then chunk b (q - (802 + 16 * i)) else sgetD q v
 | 0, k, v, q => by
  rw [segW, if_neg (by omega)]; rfl
 | n + 1, k, v, q => by
  rw [segW, show applyW v ((802 + 16 * i + k, chunk b k) :: segW i b (k + 1) n) = applyW (sput (802 + 16 * i + k) (chunk b k) v) (segW i b (k + 1) n) from rfl, segW_get i b n (k + 1), getD_sput]
  by_cases h1 : q = 802 + 16 * i + k
  ·subst h1
   rw [if_neg (by omega), if_pos rfl, if_pos (by omega)]
   congr 1; omega
  ·rw [if_neg h1]
   by_cases h2 : 802 + 16 * i + k ≤ q ∧ q < 802 + 16 * i + k + (n + 1)
   ·rw [if_pos h2, if_pos (by omega)]
   ·rw [if_neg h2, if_neg (by omega)]
theorem segW_chain (i : Nat) (b : List UInt8) : ∀ (n k : Nat) (v : Sec), (∀ j, k ≤ j → j < k + n → sgetD (802 + 16 * i + j) v <+: chunk b j) → ChainW v (segW i b k n)
 | 0, k, v, _ => trivial
 | n + 1, k, v, h => ⟨h k (Nat.le_refl _) (by omega), segW_chain i b n (k + 1) _ fun j h1 h2 => by
   rw [getD_sput, if_neg (by omega)]
   exact h j (by omega) (by omega)⟩
theorem segW_length (i : Nat) (b : List UInt8) : ∀ (n k : Nat), (segW i b k n).length = n
 | 0, _ => rfl
 | n + 1, k => by rw [segW, List.length_cons, segW_length i b n (k + 1)]
/-- chunks of a longer stream -/
theorem chunk_mono {S T : List UInt8} (h : S <+: T) (k : Nat) : chunk S k <+: chunk T k := by
 obtain ⟨u, rfl⟩ := h
 unfold chunk
 by_cases hl : 512 * k ≤ S.length
 ·rw [List.drop_append_of_le_length hl, List.take_append]
  exact List.prefix_append _ _
 ·rw [List.drop_of_length_le (by omega), List.take_nil]
  exact List.nil_prefix
theorem chunk_same {S u : List UInt8} {k : Nat} (h : k < S.length / 512) : chunk (S ++ u) k = chunk S k := by
 unfold chunk
 have h1 : 512 * k + 512 ≤ S.length := by omega
 rw [List.drop_append_of_le_length (by omega), List.take_append_of_le_length (by rw [List.length_drop]; omega)]
theorem chunk_out {S : List UInt8} {k : Nat} (h : S.length ≤ 512 * k) : chunk S k = [] := by
 unfold chunk
 rw [List.drop_of_length_le h, List.take_nil]
end Go.Proofs.YtefipnajpabfgaaGreatDoor
