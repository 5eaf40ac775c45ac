/- Part 22 of the proof: what functions of the program do, and plain facts on what they compute. -/
import Derived.Test.YtefipnajpabfgaaGreatDoorP21
set_option linter.all false
set_option maxRecDepth 40000
set_option maxHeartbeats 16000000
set_option linter.unusedSimpArgs false
set_option linter.unusedVariables false
namespace Go.Proofs.YtefipnajpabfgaaGreatDoor
open Go.Nm

/-! ### the levels of a tree -/
structure En where
 r : List UInt8
 id : Nat
 pg : Pg
def cellOf (e : En) : Cel := (e.r, vput e.id)
def cellsOf (E : List En) : List Cel := E.flatMap fun e => e.pg.cells
theorem cellsOf_app (A B : List En) : cellsOf (A ++ B) = cellsOf A ++ cellsOf B := by simp [cellsOf]
theorem cellsOf_cons (e : En) (B : List En) : cellsOf (e :: B) = e.pg.cells ++ cellsOf B := by simp [cellsOf]
def chainE : List En → Prop
 | [] => True
 | [e] => e.pg.next = 0
 | e :: e' :: B => e.pg.next = e'.id ∧ chainE (e' :: B)
structure EnOK (b : Bool) (e : En) : Prop where
 kind : e.pg.leaf = b
 sort : Sorted e.pg.cells
 lo : ∀ c ∈ e.pg.cells, Op.bytesLess c.1 e.r = false
 csz : ∀ c ∈ e.pg.cells, c.1.length ≤ 139 ∧ c.2.length ≤ (if b then 257 else 1)
 nx : e.pg.next ≤ 120
 inn : b = false → e.pg.next = 0 ∧ ∃ v B, e.pg.cells = (e.r, v) :: B
 rl : e.r.length ≤ 139
def HiOK (e e' : En) : Prop := Op.bytesLess e.r e'.r = true ∧ ∀ c ∈ e.pg.cells, Op.bytesLess c.1 e'.r = true
def minC (b : Bool) : Nat := if b then 2 else 7
structure LvOK (b : Bool) (E : List En) : Prop where
 en : ∀ e ∈ E, EnOK b e
 hi : E.Pairwise HiOK
 fst : ∃ e B, E = e :: B ∧ e.r = []
 chain : b = true → chainE E
 cnt : 2 ≤ E.length → ∀ e ∈ E, minC b ≤ e.pg.cells.length
def enw (e : En) (x : Pg) : En := ⟨e.r, e.id, x⟩
theorem chain_put : ∀ {A : List En} {e : En} {B : List En} {x : Pg}, chainE (A ++ e :: B) → x.next = e.pg.next → chainE (A ++ enw e x :: B)
 | [], e, [], x, h, hx => hx.trans h
 | [], e, b :: B, x, h, hx => ⟨hx.trans h.1, h.2⟩
 | [a], e, B, x, h, hx => ⟨h.1, chain_put (A := []) h.2 hx⟩
 | a :: a' :: A, e, B, x, h, hx => ⟨h.1, chain_put (A := a' :: A) h.2 hx⟩
theorem chain_split : ∀ {A : List En} {e e1 e2 : En} {B : List En}, chainE (A ++ e :: B) → e1.id = e.id → e1.pg.next = e2.id → e2.pg.next = e.pg.next → chainE (A ++ e1 :: e2 :: B)
 | [], e, e1, e2, [], h, h1, h2, h3 => ⟨h2, h3.trans h⟩
 | [], e, e1, e2, b :: B, h, h1, h2, h3 => ⟨h2, h3.trans h.1, h.2⟩
 | [a], e, e1, e2, B, h, h1, h2, h3 => ⟨h.1.trans h1.symm, chain_split (A := []) h.2 h1 h2 h3⟩
 | a :: a' :: A, e, e1, e2, B, h, h1, h2, h3 => ⟨h.1, chain_split (A := a' :: A) h.2 h1 h2 h3⟩
theorem fst_put {A : List En} {e e1 : En} {B C : List En} (h : ∃ x Y, A ++ e :: B = x :: Y ∧ x.r = []) (he : e1.r = e.r) : ∃ x Y, A ++ e1 :: C = x :: Y ∧ x.r = [] := by
 obtain ⟨x, Y, h1, h2⟩ := h
 cases A with
 | nil =>
  injection h1 with h1 h3
  exact ⟨e1, C, rfl, by rw [he, h1, h2]⟩
 | cons a A =>
  injection h1 with h1 h3
  exact ⟨a, A ++ e1 :: C, rfl, by rw [h1, h2]⟩
/-- a level with another page at one place -/
theorem LvOK.put {b : Bool} {A : List En} {e : En} {B : List En} (h : LvOK b (A ++ e :: B)) {x : Pg} (hx : EnOK b (enw e x)) (hn : x.next = e.pg.next) (hhi : ∀ e' ∈ B, ∀ c ∈ x.cells, Op.bytesLess c.1 e'.r = true) (hc : e.pg.cells.length ≤ x.cells.length) : LvOK b (A ++ enw e x :: B) := by
 have hp := h.hi
 rw [List.pairwise_append, List.pairwise_cons] at hp
 obtain ⟨p1, ⟨p2, p3⟩, p4⟩ := hp
 refine ⟨fun y hy => ?_, ?_, fst_put h.fst rfl, fun hb => chain_put (h.chain hb) hn, fun hl y hy => ?_⟩
 ·rcases List.mem_append.1 hy with hy | hy
  ·exact h.en y (List.mem_append_left _ hy)
  ·rcases List.mem_cons.1 hy with rfl | hy
   ·exact hx
   ·exact h.en y (List.mem_append_right _ (List.mem_cons_of_mem _ hy))
 ·rw [List.pairwise_append, List.pairwise_cons]
  refine ⟨p1, ⟨fun y hy => ⟨(p2 y hy).1, hhi y hy⟩, p3⟩, fun a ha y hy => ?_⟩
  rcases List.mem_cons.1 hy with rfl | hy
  ·exact p4 a ha e List.mem_cons_self
  ·exact p4 a ha y (List.mem_cons_of_mem _ hy)
 ·have hl' : 2 ≤ (A ++ e :: B).length := by simp at hl ⊢; omega
  rcases List.mem_append.1 hy with hy | hy
  ·exact h.cnt hl' y (List.mem_append_left _ hy)
  ·rcases List.mem_cons.1 hy with rfl | hy
   ·have := h.cnt hl' e (List.mem_append_right _ List.mem_cons_self)
    exact Nat.le_trans this hc
   ·exact h.cnt hl' y (List.mem_append_right _ (List.mem_cons_of_mem _ hy))
/-- a page that is too long, of few bytes too many -/
structure Big (x : Pg) : Prop where
 gt : 2048 < (pageS x).length
 le : (cellsS x.cells).length ≤ 2500
theorem big_facts {b : Bool} {e : En} (h : EnOK b e) (hb : Big e.pg) {m : Nat} (hm : m ≤ 100) :
  0 < splitK e.pg.cells ∧ splitK e.pg.cells < e.pg.cells.length ∧ minC b ≤ splitK e.pg.cells ∧ minC b ≤ e.pg.cells.length - splitK e.pg.cells ∧ (pageS (LP e.pg m)).length ≤ 2048 ∧ (pageS (RP e.pg)).length ≤ 2048 ∧ 2 ≤ e.pg.cells.length := by
 have hc : ∀ c ∈ e.pg.cells, (cpS c).length ≤ (if b then 400 else 144) := by
  intro c hcm
  obtain ⟨h1, h2⟩ := h.csz c hcm
  have := cp_le h1 h2 (by omega) (by split <;> omega)
  cases b <;> simp at this ⊢ <;> omega
 have hcnt : e.pg.cells.length ≤ 1250 := by
  have := cells_len e.pg.cells
  have := hb.le
  omega
 have hpl := page_len e.pg
 have hgt := hb.gt
 have v1 := vput_le e.pg.next 0 (by have := h.nx; simp; omega)
 have v2 := vput2 (n := e.pg.cells.length) (by omega)
 have hB : 2040 ≤ (cellsS e.pg.cells).length := by omega
 have h2 : 2 ≤ e.pg.cells.length := by
  have := cellsS_bound hc
  cases b <;> simp at this <;> omega
 obtain ⟨a1, a2, a3, a4, a5, a6, a7⟩ := split_ok h2 hc (by cases b <;> simp <;> omega)
 have hle := hb.le
 have hL := page_len (LP e.pg m)
 have hR := page_len (RP e.pg)
 obtain ⟨K, hK⟩ : ∃ K, splitK e.pg.cells = K := ⟨_, rfl⟩
 have w1 : (vput (LP e.pg m).next).length ≤ 1 := by
  refine vput_le _ 0 ?_
  have := h.nx
  simp only [LP]
  split <;> simp <;> omega
 have w2 : (vput (RP e.pg).next).length ≤ 1 := by
  refine vput_le _ 0 ?_
  have := h.nx
  simp only [RP]
  split <;> simp <;> omega
 have w3 : (vput (LP e.pg m).cells.length).length ≤ 2 := vput2 (by simp [LP]; omega)
 have w4 : (vput (RP e.pg).cells.length).length ≤ 2 := vput2 (by simp [RP]; omega)
 have l1 : (cellsS (LP e.pg m).cells).length = (cellsS (e.pg.cells.take K)).length := by simp only [LP, hK]
 have l2 : (cellsS (RP e.pg).cells).length = (cellsS (e.pg.cells.drop K)).length := by simp only [RP, hK]
 rw [hK] at a1 a2 a3 a4 a5 a6 a7 ⊢
 cases b with
 | true =>
  simp only [minC, if_true] at *
  refine ⟨a1, a2, ?_, ?_, by omega, by omega, h2⟩
  ·by_cases hk : 2 ≤ K
   ·exact hk
   ·have : K * 400 ≤ 1 * 400 := Nat.mul_le_mul_right _ (by omega)
    omega
  ·by_cases hk : 2 ≤ e.pg.cells.length - K
   ·exact hk
   ·have : (e.pg.cells.length - K) * 400 ≤ 1 * 400 := Nat.mul_le_mul_right _ (by omega)
    omega
 | false =>
  simp only [minC, Bool.false_eq_true, if_false] at *
  refine ⟨a1, a2, ?_, ?_, by omega, by omega, h2⟩
  ·by_cases hk : 7 ≤ K
   ·exact hk
   ·have : K * 144 ≤ 6 * 144 := Nat.mul_le_mul_right _ (by omega)
    omega
  ·by_cases hk : 7 ≤ e.pg.cells.length - K
   ·exact hk
   ·have : (e.pg.cells.length - K) * 144 ≤ 6 * 144 := Nat.mul_le_mul_right _ (by omega)
    omega

/-! ### a level with a page split in two -/
theorem take_hk {l : List Cel} (h : Sorted l) {K : Nat} (hK : K < l.length) : (∀ c ∈ l.take K, Op.bytesLess c.1 (hk (l.drop K)) = true) ∧ (∀ c ∈ l.drop K, Op.bytesLess c.1 (hk (l.drop K)) = false) ∧ (∃ v B, l.drop K = (hk (l.drop K), v) :: B) ∧ (∃ c ∈ l, c.1 = hk (l.drop K)) ∧ Sorted (l.take K) ∧ Sorted (l.drop K) := by
 have hp := sorted_iff.1 h
 have hd : l.drop K = l[K] :: l.drop (K + 1) := List.drop_eq_getElem_cons hK
 have hhk : hk (l.drop K) = l[K].1 := by rw [hk, hd]; rfl
 have hp2 := hp
 rw [← List.take_append_drop K l, List.pairwise_append] at hp2
 obtain ⟨q1, q2, q3⟩ := hp2
 have hm : l[K] ∈ l.drop K := by rw [hd]; exact List.mem_cons_self
 refine ⟨fun c hc => ?_, fun c hc => ?_, ⟨l[K].2, l.drop (K + 1), ?_⟩, ⟨l[K], List.getElem_mem hK, hhk.symm⟩, sorted_iff.2 q1, sorted_iff.2 q2⟩
 ·rw [hhk]; exact q3 c hc _ hm
 ·rw [hhk]
  rw [hd] at hc q2
  rw [List.pairwise_cons] at q2
  rcases List.mem_cons.1 hc with rfl | hc
  ·exact blt_irrefl _
  ·exact blt_asymm (q2.1 c hc)
 ·rw [hhk]; exact hd
def enL (e : En) (m : Nat) : En := ⟨e.r, e.id, LP e.pg m⟩
def enR (e : En) (m : Nat) : En := ⟨hk (RP e.pg).cells, m, RP e.pg⟩
theorem split_cells (e : En) (m : Nat) : (enL e m).pg.cells ++ (enR e m).pg.cells = e.pg.cells := List.take_append_drop _ _
theorem enLR_ok {b : Bool} {e : En} (h : EnOK b e) (hb : Big e.pg) {m : Nat} (hm : m ≤ 100) :
  EnOK b (enL e m) ∧ EnOK b (enR e m) ∧ HiOK (enL e m) (enR e m) ∧ (∃ c ∈ e.pg.cells, c.1 = (enR e m).r) ∧ minC b ≤ (enL e m).pg.cells.length ∧ minC b ≤ (enR e m).pg.cells.length := by
 obtain ⟨f1, f2, f3, f4, f5, f6, f7⟩ := big_facts h hb hm
 obtain ⟨t1, t2, ⟨v, B, t3⟩, ⟨c0, t4, t5⟩, t6, t7⟩ := take_hk h.sort f2
 have hcl : ∀ c ∈ e.pg.cells.take (splitK e.pg.cells), c ∈ e.pg.cells := fun c hc => List.mem_of_mem_take hc
 have hcr : ∀ c ∈ e.pg.cells.drop (splitK e.pg.cells), c ∈ e.pg.cells := fun c hc => List.mem_of_mem_drop hc
 have hxr : (enR e m).r = hk (e.pg.cells.drop (splitK e.pg.cells)) := rfl
 have hlr : Op.bytesLess e.r (enR e m).r = true := by
  obtain ⟨c, hc⟩ : ∃ c, c ∈ e.pg.cells.take (splitK e.pg.cells) := by
   cases hl : e.pg.cells.take (splitK e.pg.cells) with
   | nil =>
    have := congrArg List.length hl
    rw [List.length_take, List.length_nil] at this
    omega
   | cons c r => exact ⟨c, List.mem_cons_self⟩
  rw [hxr]
  exact blt_le_trans (h.lo c (hcl c hc)) (t1 c hc)
 refine ⟨⟨h.kind, t6, fun c hc => h.lo c (hcl c hc), fun c hc => h.csz c (hcl c hc), ?_, fun hbf => ?_, h.rl⟩, ⟨h.kind, t7, t2, fun c hc => h.csz c (hcr c hc), ?_, fun hbf => ⟨?_, v, B, t3⟩, ?_⟩, ⟨hlr, t1⟩, ⟨c0, t4, t5⟩, ?_, ?_⟩
 ·have := h.nx
  simp only [enL, LP]
  split <;> omega
 ·obtain ⟨g1, v', B', g2⟩ := h.inn hbf
  refine ⟨?_, v', B'.take (splitK e.pg.cells - 1), ?_⟩
  ·simp only [enL, LP]
   rw [h.kind, hbf]
   exact g1
  ·obtain ⟨K, hK⟩ : ∃ K, splitK e.pg.cells = K := ⟨_, rfl⟩
   simp only [enL, LP]
   rw [hK] at f1 ⊢
   rw [g2]
   cases K with
   | zero => omega
   | succ K => simp
 ·have := h.nx
  simp only [enR, RP]
  split <;> omega
 ·simp only [enR, RP]
  rw [h.kind, hbf]; rfl
 ·rw [hxr, ← t5]
  exact (h.csz c0 t4).1
 ·simp only [enL, LP, List.length_take]; omega
 ·simp only [enR, RP, List.length_drop]; omega
theorem LvOK.split {b : Bool} {A : List En} {e : En} {B : List En} (h : LvOK b (A ++ e :: B)) (hb : Big e.pg) {m : Nat} (hm : m ≤ 100) : LvOK b (A ++ enL e m :: enR e m :: B) := by
 have heok := h.en e (List.mem_append_right _ List.mem_cons_self)
 obtain ⟨l1, l2, l3, ⟨c0, l4, l4'⟩, l5, l6⟩ := enLR_ok heok hb hm
 have hp := h.hi
 rw [List.pairwise_append, List.pairwise_cons] at hp
 obtain ⟨p1, ⟨p2, p3⟩, p4⟩ := hp
 have hcl : ∀ c ∈ (enL e m).pg.cells, c ∈ e.pg.cells := fun c hc => by rw [← split_cells e m]; exact List.mem_append_left _ hc
 have hcr : ∀ c ∈ (enR e m).pg.cells, c ∈ e.pg.cells := fun c hc => by rw [← split_cells e m]; exact List.mem_append_right _ hc
 refine ⟨fun y hy => ?_, ?_, fst_put h.fst rfl, fun hbt => ?_, fun hl y hy => ?_⟩
 ·rcases List.mem_append.1 hy with hy | hy
  ·exact h.en y (List.mem_append_left _ hy)
  ·rcases List.mem_cons.1 hy with rfl | hy
   ·exact l1
   ·rcases List.mem_cons.1 hy with rfl | hy
    ·exact l2
    ·exact h.en y (List.mem_append_right _ (List.mem_cons_of_mem _ hy))
 ·rw [List.pairwise_append, List.pairwise_cons, List.pairwise_cons]
  refine ⟨p1, ⟨fun y hy => ?_, fun y hy => ⟨?_, fun c hc => (p2 y hy).2 c (hcr c hc)⟩, p3⟩, fun a ha y hy => ?_⟩
  ·rcases List.mem_cons.1 hy with rfl | hy
   ·exact l3
   ·exact ⟨(p2 y hy).1, fun c hc => (p2 y hy).2 c (hcl c hc)⟩
  ·rw [← l4']; exact (p2 y hy).2 c0 l4
  ·have hae := p4 a ha e List.mem_cons_self
   rcases List.mem_cons.1 hy with rfl | hy
   ·exact hae
   ·rcases List.mem_cons.1 hy with rfl | hy
    ·exact ⟨blt_trans hae.1 l3.1, fun c hc => blt_trans (hae.2 c hc) l3.1⟩
    ·exact p4 a ha y (List.mem_cons_of_mem _ hy)
 ·refine chain_split (e1 := enL e m) (e2 := enR e m) (h.chain hbt) rfl ?_ ?_
  ·simp only [enL, LP, heok.kind, hbt, if_true]; rfl
  ·simp only [enR, RP, heok.kind, hbt, if_true]
 ·have hcnt : ∀ z ∈ A ++ B, minC b ≤ z.pg.cells.length := by
   intro z hz
   have hl' : 2 ≤ (A ++ e :: B).length := by
    have : 0 < (A ++ B).length := List.length_pos_of_mem hz
    simp at this ⊢; omega
   rcases List.mem_append.1 hz with hz | hz
   ·exact h.cnt hl' z (List.mem_append_left _ hz)
   ·exact h.cnt hl' z (List.mem_append_right _ (List.mem_cons_of_mem _ hz))
  rcases List.mem_append.1 hy with hy | hy
  ·exact hcnt y (List.mem_append_left _ hy)
  ·rcases List.mem_cons.1 hy with rfl | hy
   ·exact l5
   ·rcases List.mem_cons.1 hy with rfl | hy
    ·exact l6
    ·exact hcnt y (List.mem_append_right _ hy)
theorem split_cellsOf (A : List En) (e : En) (B : List En) (m : Nat) : cellsOf (A ++ enL e m :: enR e m :: B) = cellsOf (A ++ e :: B) := by
 rw [cellsOf_app, cellsOf_app, cellsOf_cons, cellsOf_cons, cellsOf_cons, ← List.append_assoc (enL e m).pg.cells, split_cells]
/-- a good entry's page passes the program's check -/
theorem EnOK.pg {b : Bool} {e : En} (h : EnOK b e) (hs : (pageS e.pg).length ≤ 2048) : PgOK e.pg :=
 ⟨by have := h.nx; omega, fun c hc => by
  obtain ⟨h1, h2⟩ := h.csz c hc
  cases b <;> simp at h2 <;> omega, h.sort, hs⟩
/-- a level's cells rise -/
theorem LvOK.sorted {b : Bool} : ∀ {E : List En}, (∀ e ∈ E, EnOK b e) → E.Pairwise HiOK → Sorted (cellsOf E)
 | [], _, _ => trivial
 | e :: E, h, hp => by
  rw [List.pairwise_cons] at hp
  have ih := LvOK.sorted (fun x hx => h x (List.mem_cons_of_mem _ hx)) hp.2
  rw [cellsOf_cons, sorted_iff, List.pairwise_append]
  refine ⟨sorted_iff.1 (h e List.mem_cons_self).sort, sorted_iff.1 ih, fun c hc d hd => ?_⟩
  obtain ⟨e', he', hd'⟩ := List.mem_flatMap.1 hd
  exact blt_lt_le ((hp.1 e' he').2 c hc) ((h e' (List.mem_cons_of_mem _ he')).lo d hd')

/-! ### the way up: a page that is put, and what follows in the levels above -/
def LvsOK : Bool → List (List En) → Prop
 | _, [] => False
 | b, [E] => LvOK b E ∧ ∃ e, E = [e] ∧ e.id = 0
 | b, E :: E' :: r => LvOK b E ∧ 2 ≤ E.length ∧ cellsOf E' = E.map cellOf ∧ LvsOK false (E' :: r)
inductive Sel : List En → En → List En → List (List En) → List Stp → Prop
 | root {e : En} (h : e.id = 0) : Sel [] e [] [] []
 | up {A : List En} {e : En} {B A' : List En} {e' : En} {B' : List En} {r : List (List En)} {way : List Stp} {u v : List Cel} (h1 : e'.pg.cells = u ++ cellOf e :: v) (h2 : A.map cellOf = cellsOf A' ++ u) (h3 : B.map cellOf = v ++ cellsOf B') (h : Sel A' e' B' r way) :
   Sel A e B ((A' ++ e' :: B') :: r) (way ++ [⟨e'.id, u.length, e'.pg⟩])
theorem Sel.put {A : List En} {e : En} {B : List En} {r : List (List En)} {way : List Stp} (h : Sel A e B r way) {x : Pg} : Sel A (enw e x) B r way := by
 cases h with
 | root h => exact .root h
 | up h1 h2 h3 h => exact .up h1 h2 h3 h
theorem LvsOK.root_mem : ∀ {b : Bool} {Ls : List (List En)}, LvsOK b Ls → ∃ z ∈ Ls.flatten, z.id = 0
 | _, [], h => h.elim
 | _, [E], h => by
  obtain ⟨_, e, rfl, h2⟩ := h
  exact ⟨e, by simp, h2⟩
 | _, E :: E' :: r, h => by
  obtain ⟨z, h1, h2⟩ := LvsOK.root_mem h.2.2.2
  exact ⟨z, by rw [List.flatten_cons]; exact List.mem_append_right _ h1, h2⟩
theorem LvsOK.head : ∀ {b : Bool} {E : List En} {r : List (List En)}, LvsOK b (E :: r) → LvOK b E
 | _, E, [], h => h.1
 | _, E, E' :: r, h => h.1
theorem put_mid {u v : List Cel} {c x : Cel} (hs : Sorted (u ++ c :: v)) (h1 : Op.bytesLess c.1 x.1 = true) (h2 : ∀ y ∈ v, Op.bytesLess x.1 y.1 = true) : putC x (u ++ c :: v) = u ++ c :: x :: v := by
 have hp := sorted_iff.1 hs
 rw [List.pairwise_append, List.pairwise_cons] at hp
 have hu : ∀ y ∈ u, Op.bytesLess y.1 x.1 = true := fun y hy => blt_trans (hp.2.2 y hy c List.mem_cons_self) h1
 have e1 : (c :: v).filter (fun y => Op.bytesLess y.1 x.1) = [c] := by
  rw [List.filter_cons, if_pos h1, List.filter_eq_nil_iff.2 (fun y hy => by rw [blt_asymm (h2 y hy)]; decide)]
 have e2 : (c :: v).filter (fun y => Op.bytesLess x.1 y.1) = v := by
  rw [List.filter_cons, if_neg (by rw [blt_asymm h1]; decide), List.filter_eq_self.2 h2]
 have e3 : u.filter (fun y => Op.bytesLess y.1 x.1) = u := List.filter_eq_self.2 hu
 have e4 : u.filter (fun y => Op.bytesLess x.1 y.1) = [] := List.filter_eq_nil_iff.2 (fun y hy => by rw [blt_asymm (hu y hy)]; decide)
 rw [putC_eq hs]
 unfold ltF gtF
 rw [List.filter_append, List.filter_append, e1, e2, e3, e4]
 simp
def ids (L : List En) : List Nat := L.map fun e => e.id
def szOK (e : En) : Prop := (pageS e.pg).length ≤ 2048
/-- what comes of it -/
structure UpR (b : Bool) (A : List En) (e : En) (B : List En) (r : List (List En)) (way : List Stp) (W : PgM) (m : Nat) (W' : PgM) (m' : Nat) (Ls : List (List En)) : Prop where
 up : Up W' W m way e.id e.pg
 cnt : Cnt W' m'
 le : m ≤ m'
 lvs : LvsOK b Ls
 low : ∃ E0 Lr, Ls = E0 :: Lr ∧ cellsOf E0 = cellsOf (A ++ e :: B)
 pgs : ∀ z ∈ Ls.flatten, pget z.id W' = some z.pg ∧ szOK z ∧ z.id < m'
 nd : (ids Ls.flatten).Nodup
 new : ∀ z ∈ Ls.flatten, z.id ∈ ids ((A ++ e :: B) :: r).flatten ∨ m ≤ z.id
 old : ∀ i, i < m → i ∉ ids ((A ++ e :: B) :: r).flatten → pget i W' = pget i W
 num : Ls.flatten.length + m = ((A ++ e :: B) :: r).flatten.length + m'
theorem vput_small {m : Nat} (h : m < 128) : (vput m).length ≤ 1 := vput_le m 0 (by simp; omega)

theorem up_fit {b : Bool} {A : List En} {e : En} {B : List En} {r : List (List En)} {way : List Stp} {W : PgM} {m : Nat} (hL : LvsOK b ((A ++ e :: B) :: r))
  (ho : ∀ z ∈ A ++ B ++ r.flatten, pget z.id W = some z.pg ∧ szOK z) (hi : ∀ z ∈ ((A ++ e :: B) :: r).flatten, z.id < m) (hn : (ids ((A ++ e :: B) :: r).flatten).Nodup) (hC : Cnt W m) (hm : m < 90) (hs : szOK e) :
  ∃ W' m' Ls, UpR b A e B r way W m W' m' Ls := by
 have heok := hL.head.en e (List.mem_append_right _ List.mem_cons_self)
 have hem : e ∈ ((A ++ e :: B) :: r).flatten := by rw [List.flatten_cons]; exact List.mem_append_left _ (List.mem_append_right _ List.mem_cons_self)
 have hei := hi e hem
 refine ⟨pput e.id e.pg W, m, (A ++ e :: B) :: r, .fit (heok.pg hs) (by omega) rfl, hC.put _ hei, Nat.le_refl _, hL, ⟨_, _, rfl, rfl⟩, fun z hz => ?_, hn, fun z hz => .inl (List.mem_map.2 ⟨z, hz, rfl⟩), fun i h1 h2 => ?_, rfl⟩
 ·rw [pget_pput]
  have hzz : z = e ∨ (z ∈ A ++ B ++ r.flatten) := by
   rw [List.flatten_cons] at hz
   simp only [List.mem_append, List.mem_cons] at hz ⊢
   rcases hz with (h | h | h) | h
   ·exact .inr (.inl (.inl h))
   ·exact .inl h
   ·exact .inr (.inl (.inr h))
   ·exact .inr (.inr h)
  rcases hzz with rfl | hz2
  ·rw [if_pos rfl]; exact ⟨rfl, hs, hei⟩
  ·have hne : z.id ≠ e.id := by
    intro he
    rw [List.flatten_cons, List.append_assoc, List.cons_append] at hn
    have hp : (ids (e :: (A ++ B ++ r.flatten))).Nodup := by
     refine (List.Perm.nodup_iff ?_).1 hn
     refine List.Perm.map _ ?_
     rw [List.append_assoc]
     exact List.perm_middle
    rw [ids, List.map_cons, List.nodup_cons] at hp
    exact hp.1 (List.mem_map.2 ⟨z, hz2, he⟩)
   rw [if_neg hne]
   exact ⟨(ho z hz2).1, (ho z hz2).2, hi z hz⟩
 ·rw [pget_pput, if_neg]
  rintro rfl
  exact h2 (List.mem_map.2 ⟨e, hem, rfl⟩)
theorem up_root {b : Bool} {e : En} {W : PgM} {m : Nat} (hL : LvsOK b [[e]]) (he0 : e.id = 0) (hi : e.id < m) (hC : Cnt W m) (hm : m + 1 < 90) (hb : Big e.pg) :
  ∃ W' m' Ls, UpR b [] e [] [] [] W m W' m' Ls := by
 have hl := hL.head
 have heok := hl.en e List.mem_cons_self
 obtain ⟨e0, B0, h1, hr⟩ := hl.fst
 injection h1 with h1 _
 subst h1
 have hl2 : LvOK b ([] ++ (⟨e.r, m + 1, e.pg⟩ : En) :: []) := by
  refine ⟨fun y hy => ?_, by simp, ⟨_, _, rfl, hr⟩, fun hbt => hl.chain hbt, fun h => by simp at h⟩
  rw [List.nil_append, List.mem_singleton] at hy
  subst hy
  exact ⟨heok.kind, heok.sort, heok.lo, heok.csz, heok.nx, heok.inn, heok.rl⟩
 have hls := hl2.split hb (m := m) (by omega)
 have he2 : EnOK b (⟨e.r, m + 1, e.pg⟩ : En) := hl2.en _ (by simp)
 obtain ⟨l1, l2, l3, _, _, _⟩ := enLR_ok he2 hb (m := m) (by omega)
 obtain ⟨f1, f2, f3, f4, f5, f6, f7⟩ := big_facts heok hb (m := m) (by omega)
 have hhk : Op.bytesLess [] (hk (RP e.pg).cells) = true := by
  have := l3.1
  rw [show (enL (⟨e.r, m + 1, e.pg⟩ : En) m).r = e.r from rfl, hr] at this
  exact this
 have hhl : (hk (RP e.pg).cells).length ≤ 139 := l2.rl
 have hv1 := vput_small (m := m + 1) (by omega)
 have hv2 := vput_small (m := m) (by omega)
 have hroot : EnOK false (⟨[], 0, rootP (m + 1) m (hk (RP e.pg).cells)⟩ : En) := by
  refine ⟨rfl, ⟨hhk, trivial⟩, fun c _ => blt_nil _, fun c hc => ?_, by simp [rootP], fun _ => ⟨rfl, _, _, rfl⟩, by simp⟩
  simp only [rootP, List.mem_cons, List.not_mem_nil, or_false] at hc
  rcases hc with rfl | rfl
  ·exact ⟨by simp, hv1⟩
  ·exact ⟨hhl, hv2⟩
 have hsz : szOK (⟨[], 0, rootP (m + 1) m (hk (RP e.pg).cells)⟩ : En) := by
  unfold szOK
  rw [page_len]
  have h1 := cellsS_bound (l := (rootP (m + 1) m (hk (RP e.pg).cells)).cells) (c := 144) fun c hc => by
   obtain ⟨h1, h2⟩ := hroot.csz c hc
   have := cp_le h1 h2 (by omega) (by simp)
   simpa using this
  have h3 : (vput (rootP (m + 1) m (hk (RP e.pg).cells)).next).length ≤ 1 := vput_small (by simp [rootP])
  have h4 : (vput (rootP (m + 1) m (hk (RP e.pg).cells)).cells.length).length ≤ 1 := vput_small (by simp [rootP])
  have h5 : (rootP (m + 1) m (hk (RP e.pg).cells)).cells.length = 2 := rfl
  rw [h5] at h1
  simp only at h1 h3 h4 ⊢
  omega
 refine ⟨pput 0 (rootP (m + 1) m (hk (RP e.pg).cells)) (pput (m + 1) (LP e.pg m) (pput m (RP e.pg) W)), m + 2, [[⟨e.r, m + 1, LP e.pg m⟩, ⟨hk (RP e.pg).cells, m, RP e.pg⟩], [⟨[], 0, rootP (m + 1) m (hk (RP e.pg).cells)⟩]], ?_⟩
 refine ⟨?_, ((hC.new _).new _).put _ (by omega), by omega, ⟨hls, by simp, ?_, ?_, _, rfl, rfl⟩, ⟨_, _, rfl, ?_⟩, fun z hz => ?_, ?_, fun z hz => ?_, fun i h1 h2 => ?_, ?_⟩
 ·rw [he0]
  exact .root hb.gt f7 (by have := hb.le; omega) (by have := heok.nx; omega) (fun hf => (heok.inn (by rw [← heok.kind, hf])).1) hm (by omega) (l2.pg f6) (l1.pg f5) (hroot.pg hsz) rfl
 ·rw [hr]; simp [cellsOf, rootP, cellOf]
 ·exact ⟨fun y hy => by rw [List.mem_singleton] at hy; subst hy; exact hroot, by simp, ⟨_, _, rfl, rfl⟩, fun h => (by cases h), fun h => by simp at h⟩
 ·simp only [cellsOf, List.flatMap_cons, List.flatMap_nil, List.append_nil, List.nil_append]
  exact List.take_append_drop _ _
 ·simp only [List.flatten_cons, List.flatten_nil, List.append_nil, List.cons_append, List.nil_append, List.mem_cons, List.not_mem_nil, or_false] at hz
  rcases hz with rfl | rfl | rfl
  ·refine ⟨?_, f5, by simp⟩
   rw [pget_pput, if_neg (by simp), pget_pput, if_pos rfl]
  ·refine ⟨?_, f6, by simp⟩
   rw [pget_pput, if_neg (by simp; omega), pget_pput, if_neg (by simp), pget_pput, if_pos rfl]
  ·refine ⟨?_, hsz, by simp⟩
   rw [pget_pput, if_pos rfl]
 ·simp [ids]; omega
 ·simp only [List.flatten_cons, List.flatten_nil, List.append_nil, List.cons_append, List.nil_append, List.mem_cons, List.not_mem_nil, or_false] at hz
  rcases hz with rfl | rfl | rfl
  ·right; simp
  ·right; simp
  ·left; simp [ids, he0]
 ·have hi0 : i ≠ 0 := by
   rintro rfl
   exact h2 (by simp [ids, he0])
  rw [pget_pput, if_neg hi0, pget_pput, if_neg (by omega), pget_pput, if_neg (by omega)]
 ·simp; omega

theorem cellsS_perm_le {u v : List Cel} {c x : Cel} : (cellsS (u ++ c :: x :: v)).length = (cellsS (u ++ c :: v)).length + (cpS x).length := by
 rw [show u ++ c :: x :: v = u ++ ([c] ++ ([x] ++ v)) from by simp, show u ++ c :: v = u ++ ([c] ++ v) from by simp]
 simp only [cellsS_app, cellsS_one, List.length_append]
 omega
theorem page_cells {p : Pg} (h : (pageS p).length ≤ 2048) : (cellsS p.cells).length ≤ 2044 := by
 have := page_len p; omega

theorem up_law : ∀ (r : List (List En)) {b : Bool} {A : List En} {e : En} {B : List En} {way : List Stp} {W : PgM} {m : Nat}, Sel A e B r way → LvsOK b ((A ++ e :: B) :: r) →
  (∀ z ∈ A ++ B ++ r.flatten, pget z.id W = some z.pg ∧ szOK z) → (∀ z ∈ ((A ++ e :: B) :: r).flatten, z.id < m) → (ids ((A ++ e :: B) :: r).flatten).Nodup → Cnt W m → m + r.length + 1 < 90 → (cellsS e.pg.cells).length ≤ 2500 →
  ∃ W' m' Ls, UpR b A e B r way W m W' m' Ls := by
 intro r
 induction r with
 | nil =>
  intro b A e B way W m hS hL ho hi hn hC hm hle
  cases hS with
  | root h0 =>
   by_cases hs : szOK e
   ·exact up_fit hL ho hi hn hC (by omega) hs
   ·exact up_root hL h0 (hi e (by simp)) hC (by simpa using hm) ⟨by unfold szOK at hs; omega, hle⟩
 | cons E' r ih =>
  intro b A e B way W m hS hL ho hi hn hC hm hle
  by_cases hs : szOK e
  ·exact up_fit hL ho hi hn hC (by omega) hs
  have hb : Big e.pg := ⟨by unfold szOK at hs; omega, hle⟩
  cases hS with
  | @up _ _ _ A' e' B' _ way u v h1 h2 h3 hS =>
  rw [List.length_cons] at hm
  obtain ⟨hLv, hlen, hcc, hLr⟩ := hL
  have heok := hLv.en e (List.mem_append_right _ List.mem_cons_self)
  have hLv' := hLr.head
  have heok' := hLv'.en e' (List.mem_append_right _ List.mem_cons_self)
  obtain ⟨l1, l2, l3, ⟨c0, l4, l4'⟩, l5, l6⟩ := enLR_ok heok hb (m := m) (by omega)
  obtain ⟨f1, f2, f3, f4, f5, f6, f7⟩ := big_facts heok hb (m := m) (by omega)
  have hem : e ∈ ((A ++ e :: B) :: (A' ++ e' :: B') :: r).flatten := by rw [List.flatten_cons]; exact List.mem_append_left _ (List.mem_append_right _ List.mem_cons_self)
  have hei := hi e hem
  have hn2 := hn
  rw [List.flatten_cons, ids, List.map_append, List.nodup_append] at hn2
  obtain ⟨n1, n2, n3⟩ := hn2
  have hne : ∀ z ∈ ((A' ++ e' :: B') :: r).flatten, z.id ≠ e.id := fun z hz he => n3 e.id (List.mem_map.2 ⟨e, List.mem_append_right _ List.mem_cons_self, rfl⟩) z.id (List.mem_map.2 ⟨z, hz, rfl⟩) he.symm
  have hup : ∀ z ∈ ((A' ++ e' :: B') :: r).flatten, z.id < m := fun z hz => hi z (by rw [List.flatten_cons]; exact List.mem_append_right _ hz)
  have he0 : e.id ≠ 0 := by
   obtain ⟨z, hz, hz0⟩ := hLr.root_mem
   have := hne z hz
   omega
  have hoe := ho e' (List.mem_append_right _ (by rw [List.flatten_cons]; exact List.mem_append_left _ (List.mem_append_right _ List.mem_cons_self)))
  have hxr : hk (RP e.pg).cells = (enR e m).r := rfl
  have hltr : Op.bytesLess (cellOf e).1 (enR e m).r = true := l3.1
  have hBhi : ∀ z ∈ B, Op.bytesLess (enR e m).r z.r = true := fun z hz => by
   have hp := hLv.hi
   rw [List.pairwise_append, List.pairwise_cons] at hp
   rw [← l4']
   exact (hp.2.1.1 z hz).2 c0 l4
  have hin : ∀ y ∈ v ++ cellsOf B', Op.bytesLess (enR e m).r y.1 = true := fun y hy => by
   rw [← h3] at hy
   obtain ⟨z, hz, rfl⟩ := List.mem_map.1 hy
   exact hBhi z hz
  have hv1 := vput_small (m := m) (by omega)
  have hrl : (enR e m).r.length ≤ 139 := l2.rl
  have hmid : putC ((enR e m).r, vput m) e'.pg.cells = u ++ cellOf e :: ((enR e m).r, vput m) :: v := by
   rw [h1]
   exact put_mid (by rw [← h1]; exact heok'.sort) hltr fun y hy => hin y (List.mem_append_left _ hy)
  obtain ⟨y, hy⟩ : ∃ y : Pg, y = ⟨e'.pg.leaf, e'.pg.next, putC ((enR e m).r, vput m) e'.pg.cells⟩ := ⟨_, rfl⟩
  have hyc : y.cells = u ++ cellOf e :: ((enR e m).r, vput m) :: v := by rw [hy]; exact hmid
  have hcin : ∀ c ∈ y.cells, c = ((enR e m).r, vput m) ∨ c ∈ e'.pg.cells := fun c hc => by
   rw [hy] at hc
   rcases (putC_mem heok'.sort _ c).1 hc with h | ⟨h, _⟩
   ·exact .inl h
   ·exact .inr h
  have hce : cellOf e ∈ e'.pg.cells := by rw [h1]; exact List.mem_append_right _ List.mem_cons_self
  have hyok : EnOK false (enw e' y) := by
   refine ⟨by rw [enw, hy]; exact heok'.kind, by rw [enw, hy]; exact putC_sorted heok'.sort _, fun c hc => ?_, fun c hc => ?_, by rw [enw, hy]; exact heok'.nx, fun _ => ?_, heok'.rl⟩
   ·rcases hcin c hc with rfl | hc
    ·exact blt_asymm (blt_le_trans (heok'.lo _ hce) hltr)
    ·exact heok'.lo c hc
   ·rcases hcin c hc with rfl | hc
    ·exact ⟨hrl, by simpa using hv1⟩
    ·exact heok'.csz c hc
   ·obtain ⟨g1, v0, B0, g2⟩ := heok'.inn rfl
    refine ⟨by rw [enw, hy]; exact g1, ?_⟩
    rw [h1] at g2
    simp only [enw]
    rw [hyc]
    cases u with
    | nil =>
     injection g2 with g2 g3
     exact ⟨v0, ((enR e m).r, vput m) :: v, by rw [List.nil_append, g2]⟩
    | cons u0 u =>
     injection g2 with g2 g3
     exact ⟨v0, u ++ cellOf e :: ((enR e m).r, vput m) :: v, by rw [g2]; rfl⟩
  have hLvy : LvOK false (A' ++ enw e' y :: B') := by
   refine hLv'.put hyok (by rw [hy]) (fun z hz c hc => ?_) (by rw [hyc, h1]; simp)
   rcases hcin c hc with rfl | hc
   ·obtain ⟨_, v0, B0, g2⟩ := (hLv'.en z (List.mem_append_right _ (List.mem_cons_of_mem _ hz))).inn rfl
    exact hin (z.r, v0) (List.mem_append_right _ (List.mem_flatMap.2 ⟨z, hz, by rw [g2]; exact List.mem_cons_self⟩))
   ·have hp := hLv'.hi
    rw [List.pairwise_append, List.pairwise_cons] at hp
    exact (hp.2.1.1 z hz).2 c hc
  have hLsy : LvsOK false ((A' ++ enw e' y :: B') :: r) := by
   cases r with
   | nil =>
    obtain ⟨_, e1, q1, q2⟩ := hLr
    refine ⟨hLvy, ?_⟩
    cases A' with
    | nil =>
     injection q1 with q1 q3
     refine ⟨enw e' y, by rw [q3]; rfl, ?_⟩
     rw [show (enw e' y).id = e'.id from rfl, q1]; exact q2
    | cons a A' => injection q1 with q1 q3; simp at q3
   | cons E'' r =>
    obtain ⟨_, q2, q3, q4⟩ := hLr
    refine ⟨hLvy, by simpa using q2, ?_, q4⟩
    rw [q3]; simp [cellOf, enw]
  have hidy : ids ((A' ++ enw e' y :: B') :: r).flatten = ids ((A' ++ e' :: B') :: r).flatten := by
   simp [ids, enw]
  have hW1 : ∀ i, i ≠ e.id → i ≠ m → pget i (pput e.id (LP e.pg m) (pput m (RP e.pg) W)) = pget i W := fun i h h' => by
   rw [pget_pput, if_neg h, pget_pput, if_neg h']
  have hmemy : ∀ z ∈ ((A' ++ enw e' y :: B') :: r).flatten, ∃ z' ∈ ((A' ++ e' :: B') :: r).flatten, z'.id = z.id := fun z hz => by
   have : z.id ∈ ids ((A' ++ enw e' y :: B') :: r).flatten := List.mem_map.2 ⟨z, hz, rfl⟩
   rw [hidy] at this
   exact List.mem_map.1 this
  obtain ⟨W', m', Ls, hU⟩ := ih (b := false) (m := m + 1) (W := pput e.id (LP e.pg m) (pput m (RP e.pg) W)) (hS.put (x := y)) hLsy (fun z hz => by
    have hz2 : z ∈ ((A' ++ e' :: B') :: r).flatten := by
     rw [List.flatten_cons]
     simp only [List.mem_append, List.mem_cons] at hz ⊢
     rcases hz with (h | h) | h
     ·exact .inl (.inl h)
     ·exact .inl (.inr (.inr h))
     ·exact .inr h
    rw [hW1 z.id (hne z hz2) (by have := hup z hz2; omega)]
    exact ho z (List.mem_append_right _ hz2)) (fun z hz => by
    obtain ⟨z', hz', he⟩ := hmemy z hz
    have := hup z' hz'
    omega) (by rw [hidy]; exact n2) ((hC.new _).put _ (by omega)) (by omega) (by
    rw [show (enw e' y).pg = y from rfl, hyc, cellsS_perm_le, ← h1]
    have := page_cells hoe.2
    have := cp_le (c := ((enR e m).r, vput m)) hrl hv1 (by omega) (by omega)
    omega)
  obtain ⟨E0, Lr, q1, q2⟩ := hU.low
  have hcO : cellsOf E0 = (A ++ enL e m :: enR e m :: B).map cellOf := by
   rw [q2, cellsOf_app, cellsOf_cons, show (enw e' y).pg.cells = y.cells from rfl, hyc, List.map_append, List.map_cons, List.map_cons, h2, h3]
   simp [cellOf, enL, enR]
  have hnotup : ∀ z ∈ A ++ e :: B, z.id ∉ ids ((A' ++ e' :: B') :: r).flatten := fun z hz hc => n3 z.id (List.mem_map.2 ⟨z, hz, rfl⟩) z.id hc rfl
  have hzlow : ∀ z ∈ A ++ e :: B, z.id < m := fun z hz => hi z (by rw [List.flatten_cons]; exact List.mem_append_left _ hz)
  have hmnot : m ∉ ids ((A' ++ e' :: B') :: r).flatten := fun hc => by
   obtain ⟨z, hz, he⟩ := List.mem_map.1 hc
   have := hup z hz
   have he2 : z.id = m := he
   omega
  have hold := hU.old
  rw [hidy] at hold
  have hnew := hU.new
  rw [hidy] at hnew
  have hle' := hU.le
  have hE1 : ∀ z ∈ A ++ enL e m :: enR e m :: B, z = enL e m ∨ z = enR e m ∨ (z ∈ A ++ B) := fun z hz => by
   simp only [List.mem_append, List.mem_cons] at hz ⊢
   rcases hz with h | h | h | h
   ·exact .inr (.inr (.inl h))
   ·exact .inl h
   ·exact .inr (.inl h)
   ·exact .inr (.inr (.inr h))
  have hAB : ∀ z ∈ A ++ B, z ∈ A ++ e :: B := fun z hz => by
   simp only [List.mem_append, List.mem_cons] at hz ⊢
   rcases hz with h | h
   ·exact .inl h
   ·exact .inr (.inr h)
  have hABne : ∀ z ∈ A ++ B, z.id ≠ e.id := fun z hz he => by
   have hp : (ids (e :: (A ++ B))).Nodup := (List.Perm.nodup_iff (List.Perm.map _ List.perm_middle)).1 n1
   rw [ids, List.map_cons, List.nodup_cons] at hp
   exact hp.1 (List.mem_map.2 ⟨z, hz, he⟩)
  refine ⟨W', m', (A ++ enL e m :: enR e m :: B) :: Ls, ?_, hU.cnt, by omega, ?_, ⟨_, _, rfl, split_cellsOf A e B m⟩, fun z hz => ?_, ?_, fun z hz => ?_, fun i hi1 hi2 => ?_, ?_⟩
  ·refine .step hb.gt f7 (by omega) (by have := heok.nx; omega) he0 hei (by omega) (l2.pg f6) (l1.pg f5) (heok'.pg hoe.2) (by rw [hxr]; omega) ?_
   have := hU.up
   rw [show (enw e' y).pg = y from rfl, hy] at this
   exact this
  ·rw [q1]
   refine ⟨hLv.split hb (by omega), by simp; omega, hcO, ?_⟩
   rw [← q1]; exact hU.lvs
  ·rw [List.flatten_cons] at hz
   rcases List.mem_append.1 hz with hz | hz
   ·rcases hE1 z hz with rfl | rfl | hz
    ·refine ⟨?_, f5, by show e.id < m'; omega⟩
     rw [show (enL e m).id = e.id from rfl, hold e.id (by omega) (hnotup e (List.mem_append_right _ List.mem_cons_self)), pget_pput, if_pos rfl]; rfl
    ·refine ⟨?_, f6, by show m < m'; omega⟩
     rw [show (enR e m).id = m from rfl, hold m (by omega) hmnot, pget_pput, if_neg (by omega), pget_pput, if_pos rfl]; rfl
    ·have hzl := hzlow z (hAB z hz)
     have hzo := ho z (List.mem_append_left _ hz)
     refine ⟨?_, hzo.2, by omega⟩
     rw [hold z.id (by omega) (hnotup z (hAB z hz)), hW1 z.id (hABne z hz) (by omega)]
     exact hzo.1
   ·exact hU.pgs z hz
  ·rw [List.flatten_cons, ids, List.map_append, List.nodup_append]
   refine ⟨?_, hU.nd, fun a ha b' hb' he => ?_⟩
   ·have hp : (ids (enR e m :: (A ++ e :: B))).Nodup := by
     rw [ids, List.map_cons, List.nodup_cons]
     refine ⟨fun hc => ?_, n1⟩
     obtain ⟨z, hz, hze⟩ := List.mem_map.1 hc
     have := hzlow z hz
     have hz2 : z.id = m := hze
     omega
    refine (List.Perm.nodup_iff ?_).1 hp
    have hid : (A ++ enL e m :: enR e m :: B).map (fun z => z.id) = (A ++ e :: enR e m :: B).map (fun z => z.id) := by simp [enL]
    rw [hid]
    refine List.Perm.map _ ?_
    rw [show A ++ e :: enR e m :: B = (A ++ [e]) ++ enR e m :: B from by simp, show A ++ e :: B = (A ++ [e]) ++ B from by simp]
    exact List.perm_middle.symm
   ·subst he
    obtain ⟨z, hz, rfl⟩ := List.mem_map.1 ha
    obtain ⟨z', hz', hze⟩ := List.mem_map.1 hb'
    have hze : z'.id = z.id := hze
    rcases hE1 z hz with rfl | rfl | hz
    ·rcases hnew z' hz' with h | h
     ·rw [hze] at h
      exact hnotup e (List.mem_append_right _ List.mem_cons_self) h
     ·rw [hze] at h
      have : e.id < m := hei
      have h' : m + 1 ≤ e.id := h
      omega
    ·rcases hnew z' hz' with h | h
     ·rw [hze] at h
      exact hmnot h
     ·rw [hze] at h
      have h' : m + 1 ≤ m := h
      omega
    ·rcases hnew z' hz' with h | h
     ·rw [hze] at h
      exact hnotup z (hAB z hz) h
     ·have := hzlow z (hAB z hz)
      omega
  ·rw [List.flatten_cons] at hz
   rcases List.mem_append.1 hz with hz | hz
   ·rcases hE1 z hz with rfl | rfl | hz
    ·exact .inl (List.mem_map.2 ⟨e, hem, rfl⟩)
    ·exact .inr (Nat.le_refl _)
    ·exact .inl (List.mem_map.2 ⟨z, by rw [List.flatten_cons]; exact List.mem_append_left _ (hAB z hz), rfl⟩)
   ·rcases hnew z hz with h | h
    ·left
     rw [List.flatten_cons, ids, List.map_append]
     exact List.mem_append_right _ h
    ·right; omega
  ·have hnot : i ∉ ids ((A' ++ e' :: B') :: r).flatten := fun hc => hi2 (by
    rw [List.flatten_cons, ids, List.map_append]
    exact List.mem_append_right _ hc)
   have hie : i ≠ e.id := by
    rintro rfl
    exact hi2 (List.mem_map.2 ⟨e, hem, rfl⟩)
   rw [hold i (by omega) hnot, hW1 i hie (by omega)]
  ·have := hU.num
   have hl2 := congrArg List.length hidy
   simp only [ids, List.length_map] at hl2
   rw [hl2] at this
   simp only [List.flatten_cons, List.length_append, List.length_cons] at this ⊢
   omega

/-! ### the way down -/
theorem below_spec {l : List Cel} (hs : Sorted l) {key : List UInt8} {x0 : Cel} {r0 : List Cel} (hl : l = x0 :: r0) (hx : Op.bytesLess key x0.1 = false) :
    ∃ u c v, l = u ++ c :: v ∧ u.length = below key l ∧ Op.bytesLess key c.1 = false ∧ ∀ y ∈ v, Op.bytesLess key y.1 = true := by
  have hle := lob_le key l
  have hd := drop_lob hs key
  have hg := geF_gtF hs key
  have htl : (l.take (lob key l)).length = lob key l := by rw [List.length_take]; omega
  have hta := List.take_append_drop (lob key l) l
  cases hk : keyAt key l with
  | true =>
    obtain ⟨c, hc, he⟩ := (keyAt_iff hs key).1 hk
    have hcv := keyAt_val hs hc
    rw [he] at hcv
    rw [hk, if_pos rfl, hcv] at hg
    refine ⟨l.take (lob key l), c, gtF key l, ?_, ?_, by rw [he]; exact blt_irrefl _, fun y hy => (mem_gtF.1 hy).2⟩
    · rw [hd, hg] at hta
      exact hta.symm
    · rw [htl, below, hk, if_pos rfl]
  | false =>
    rw [hk, if_neg (by simp), List.nil_append] at hg
    have hx2 : Op.bytesLess x0.1 key = true := by
      cases h1 : Op.bytesLess x0.1 key with
      | true => rfl
      | false =>
        rw [(keyAt_iff hs key).2 ⟨x0, by rw [hl]; exact List.mem_cons_self, blt_conn h1 hx⟩] at hk
        cases hk
    have ht := take_lob hs key
    rcases List.eq_nil_or_concat (l.take (lob key l)) with h | ⟨u, c, h⟩
    · have hm : x0 ∈ ltF key l := mem_ltF.2 ⟨by rw [hl]; exact List.mem_cons_self, hx2⟩
      rw [← ht, h] at hm
      simp at hm
    · have hcm : c ∈ ltF key l := by rw [← ht, h]; simp
      refine ⟨u, c, gtF key l, ?_, ?_, blt_asymm (mem_ltF.1 hcm).2, fun y hy => (mem_gtF.1 hy).2⟩
      · rw [h, hd, hg] at hta
        exact hta.symm.trans (by simp)
      · rw [below, hk, if_neg (by simp), ← htl, h]; simp
inductive WayP (W : PgM) (key : List UInt8) : Nat → List Stp → Nat → Prop
  | nil (id : Nat) : WayP W key id [] id
  | cons {id c t : Nat} {p : Pg} {k : List UInt8} {l : List Stp} (h1 : pget id W = some p) (h2 : p.leaf = false) (h3 : PgOK p) (h4 : below key p.cells < p.cells.length) (h5 : p.cells.getD (below key p.cells) ([], []) = (k, vput c)) (h6 : 0 < c) (h7 : c < 90)
      (h8 : WayP W key c l t) : WayP W key id (⟨id, below key p.cells, p⟩ :: l) t
theorem wayP_snoc {W : PgM} {key : List UInt8} : ∀ {id s c : Nat} {l : List Stp} {p : Pg} {k : List UInt8}, WayP W key id l s → pget s W = some p → p.leaf = false → PgOK p → below key p.cells < p.cells.length → p.cells.getD (below key p.cells) ([], []) = (k, vput c) → 0 < c → c < 90 → WayP W key id (l ++ [⟨s, below key p.cells, p⟩]) c
  | _, _, _, _, _, _, .nil _, h1, h2, h3, h4, h5, h6, h7 => .cons h1 h2 h3 h4 h5 h6 h7 (.nil _)
  | _, _, _, _, _, _, .cons g1 g2 g3 g4 g5 g6 g7 g8, h1, h2, h3, h4, h5, h6, h7 => .cons g1 g2 g3 g4 g5 g6 g7 (wayP_snoc g8 h1 h2 h3 h4 h5 h6 h7)
theorem wayP_way {W : PgM} {key : List UInt8} : ∀ {id t : Nat} {l : List Stp} {p : Pg}, WayP W key id l t → pget t W = some p → p.leaf = true → PgOK p → Way W key id (l ++ [⟨t, 0, p⟩])
  | _, _, _, _, .nil _, h1, h2, h3 => .leaf h1 h2 h3
  | _, _, _, _, .cons g1 g2 g3 g4 g5 g6 g7 g8, h1, h2, h3 => .node g1 g2 g3 g4 g5 g6 g7 (wayP_way g8 h1 h2 h3)
theorem down_law {W : PgM} (key : List UInt8) : ∀ (r : List (List En)) {b : Bool} {E : List En}, LvsOK b (E :: r) → (∀ z ∈ (E :: r).flatten, pget z.id W = some z.pg ∧ szOK z ∧ z.id < 90) → (ids (E :: r).flatten).Nodup →
    ∃ A e B way, E = A ++ e :: B ∧ Sel A e B r way ∧ Op.bytesLess key e.r = false ∧ (∀ z ∈ B, Op.bytesLess key z.r = true) ∧ WayP W key 0 way e.id ∧ way.length = r.length := by
  intro r
  induction r with
  | nil =>
    intro b E hL hp hn
    obtain ⟨h1, e, rfl, h2⟩ := hL
    obtain ⟨x, Y, h3, h4⟩ := h1.fst
    injection h3 with h3 _
    subst h3
    refine ⟨[], e, [], [], rfl, .root h2, by rw [h4]; exact blt_nil _, by simp, ?_, rfl⟩
    rw [h2]; exact .nil 0
  | cons E' r ih =>
    intro b E hL hp hn
    obtain ⟨hLv, hlen, hcc, hLr⟩ := hL
    have hn2 := hn
    rw [List.flatten_cons, ids, List.map_append, List.nodup_append] at hn2
    obtain ⟨n1, n2, n3⟩ := hn2
    obtain ⟨A', e', B', way, rfl, hS, hk1, hk2, hW, hwl⟩ := ih hLr (fun z hz => hp z (by rw [List.flatten_cons]; exact List.mem_append_right _ hz)) n2
    have hem' : e' ∈ A' ++ e' :: B' := List.mem_append_right _ List.mem_cons_self
    have heok := hLr.head.en e' hem'
    have hep := hp e' (by rw [List.flatten_cons, List.flatten_cons]; exact List.mem_append_right _ (List.mem_append_left _ hem'))
    obtain ⟨_, v0, B0, hc0⟩ := heok.inn rfl
    obtain ⟨u, c, v, hu, hul, hck, hv⟩ := below_spec heok.sort hc0 hk1
    have hE : E.map cellOf = (cellsOf A' ++ u) ++ (c :: (v ++ cellsOf B')) := by
      rw [← hcc, cellsOf_app, cellsOf_cons, hu]; simp
    obtain ⟨A, C, rfl, hA, hC⟩ := List.map_eq_append_iff.1 hE
    obtain ⟨e, B, rfl, he, hB⟩ := List.map_eq_cons_iff.1 hC
    have hem : e ∈ A ++ e :: B := List.mem_append_right _ List.mem_cons_self
    have he0 : e.id ≠ 0 := by
      obtain ⟨z, hz, hz0⟩ := hLr.root_mem
      exact fun h => n3 e.id (List.mem_map.2 ⟨e, hem, rfl⟩) z.id (List.mem_map.2 ⟨z, hz, rfl⟩) (h.trans hz0.symm)
    have he90 := (hp e (by rw [List.flatten_cons]; exact List.mem_append_left _ hem)).2.2
    refine ⟨A, e, B, way ++ [⟨e'.id, u.length, e'.pg⟩], rfl, .up (by rw [he]; exact hu) hA hB hS, by rw [← he] at hck; exact hck, fun z hz => ?_, ?_, by simp [hwl]⟩
    · have hz2 : cellOf z ∈ v ++ cellsOf B' := by rw [← hB]; exact List.mem_map.2 ⟨z, hz, rfl⟩
      rcases List.mem_append.1 hz2 with h | h
      · exact hv _ h
      · obtain ⟨z', hz', hc'⟩ := List.mem_flatMap.1 h
        exact blt_lt_le (hk2 z' hz') ((hLr.head.en z' (List.mem_append_right _ (List.mem_cons_of_mem _ hz'))).lo _ hc')
    · rw [hul]
      have hlt : below key e'.pg.cells < e'.pg.cells.length := by rw [← hul]; conv => rhs; rw [hu]
                                                                  simp
      refine wayP_snoc hW hep.1 heok.kind (heok.pg hep.2.1) hlt (k := e.r) (c := e.id) ?_ (by omega) he90
      rw [← hul]
      conv => lhs; rw [hu]
      rw [List.getD_eq_getElem?_getD, List.getElem?_append_right (Nat.le_refl _), Nat.sub_self, ← he]; rfl
end Go.Proofs.YtefipnajpabfgaaGreatDoor
