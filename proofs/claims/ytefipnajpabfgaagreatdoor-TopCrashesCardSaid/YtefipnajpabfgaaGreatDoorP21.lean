/- Part 21 of the proof: what functions of the program do, and plain facts on what they compute. -/
import Derived.Test.YtefipnajpabfgaaGreatDoorP20
set_option linter.all false
set_option maxRecDepth 40000
set_option maxHeartbeats 16000000
set_option linter.unusedSimpArgs false
set_option linter.unusedVariables false
namespace Go.Proofs.YtefipnajpabfgaaGreatDoor
open Go.Nm

/-! ### sorted cells -/
abbrev CLt (a b : Cel) : Prop := Op.bytesLess a.1 b.1 = true
theorem sorted_iff : ∀ {l : List Cel}, Sorted l ↔ l.Pairwise CLt
 | [] => by simp [Sorted]
 | a :: l => by
  constructor
  ·intro h
   rw [List.pairwise_cons]
   exact ⟨fun c hc => h.head c hc, sorted_iff.1 h.tail⟩
  ·intro h
   rw [List.pairwise_cons] at h
   exact Sorted.of_head h.1 (sorted_iff.2 h.2)
def ltF (key : List UInt8) (l : List Cel) : List Cel := l.filter fun c => Op.bytesLess c.1 key
def geF (key : List UInt8) (l : List Cel) : List Cel := l.filter fun c => !Op.bytesLess c.1 key
def gtF (key : List UInt8) (l : List Cel) : List Cel := l.filter fun c => Op.bytesLess key c.1
theorem lob_cons (key : List UInt8) (a : Cel) (l : List Cel) : lob key (a :: l) = if Op.bytesLess a.1 key then lob key l + 1 else 0 := by
 unfold lob
 rw [List.takeWhile_cons]
 split <;> simp
theorem geF_all {key : List UInt8} {a : Cel} {l : List Cel} (h : Sorted (a :: l)) (ha : Op.bytesLess a.1 key = false) : ∀ c ∈ a :: l, Op.bytesLess c.1 key = false := by
 intro c hc
 rcases List.mem_cons.1 hc with rfl | hc
 ·exact ha
 ·have h1 := h.head c hc
  cases h2 : Op.bytesLess c.1 key with
  | false => rfl
  | true => rw [blt_trans h1 h2] at ha; cases ha
theorem drop_lob : ∀ {l : List Cel}, Sorted l → ∀ key, l.drop (lob key l) = geF key l
 | [], _, key => rfl
 | a :: l, h, key => by
  rw [lob_cons]
  cases ha : Op.bytesLess a.1 key with
  | true =>
   rw [if_pos rfl, List.drop_succ_cons, drop_lob h.tail key]
   simp [geF, ha]
  | false =>
   rw [if_neg (by simp), List.drop_zero]
   unfold geF
   rw [List.filter_eq_self.2]
   intro c hc
   rw [geF_all h ha c hc]; rfl
theorem take_lob : ∀ {l : List Cel}, Sorted l → ∀ key, l.take (lob key l) = ltF key l
 | [], _, key => rfl
 | a :: l, h, key => by
  rw [lob_cons]
  cases ha : Op.bytesLess a.1 key with
  | true =>
   rw [if_pos rfl, List.take_succ_cons, take_lob h.tail key]
   simp [ltF, ha]
  | false =>
   rw [if_neg (by simp), List.take_zero]
   unfold ltF
   rw [List.filter_eq_nil_iff.2]
   intro c hc
   rw [geF_all h ha c hc]; decide
theorem mem_geF {key : List UInt8} {l : List Cel} {c : Cel} : c ∈ geF key l ↔ c ∈ l ∧ Op.bytesLess c.1 key = false := by
 unfold geF; rw [List.mem_filter]; simp
theorem mem_ltF {key : List UInt8} {l : List Cel} {c : Cel} : c ∈ ltF key l ↔ c ∈ l ∧ Op.bytesLess c.1 key = true := by
 unfold ltF; rw [List.mem_filter]
theorem mem_gtF {key : List UInt8} {l : List Cel} {c : Cel} : c ∈ gtF key l ↔ c ∈ l ∧ Op.bytesLess key c.1 = true := by
 unfold gtF; rw [List.mem_filter]
theorem geF_sorted {l : List Cel} (h : Sorted l) (key : List UInt8) : Sorted (geF key l) := sorted_iff.2 ((sorted_iff.1 h).filter _)
theorem ltF_sorted {l : List Cel} (h : Sorted l) (key : List UInt8) : Sorted (ltF key l) := sorted_iff.2 ((sorted_iff.1 h).filter _)
theorem gtF_sorted {l : List Cel} (h : Sorted l) (key : List UInt8) : Sorted (gtF key l) := sorted_iff.2 ((sorted_iff.1 h).filter _)
/-- a key is there -/
theorem keyAt_iff {l : List Cel} (h : Sorted l) (key : List UInt8) : keyAt key l = true ↔ ∃ c ∈ l, c.1 = key := by
 have hd := drop_lob h key
 have hs := geF_sorted h key
 have hk : keyAt key l = match (geF key l).head? with | some c => c.1 == key | none => false := by
  unfold keyAt
  rw [← hd, List.head?_drop]
  cases l[lob key l]? <;> rfl
 rw [hk]
 constructor
 ·intro h1
  split at h1
  ·rename_i c hc
   exact ⟨c, (mem_geF.1 (List.mem_of_head? hc)).1, eq_of_beq h1⟩
  ·cases h1
 ·rintro ⟨c, hc, rfl⟩
  have hm : c ∈ geF c.1 l := mem_geF.2 ⟨hc, blt_irrefl _⟩
  cases hg : geF c.1 l with
  | nil => rw [hg] at hm; simp at hm
  | cons x r =>
   rw [hg] at hm hs
   simp only [List.head?_cons]
   rcases List.mem_cons.1 hm with rfl | hm
   ·simp
   ·have h1 := hs.head c hm
    have h2 := (mem_geF.1 (by rw [hg]; exact List.mem_cons_self : x ∈ geF c.1 l)).2
    rw [h1] at h2; cases h2
theorem keyAt_val {l : List Cel} (h : Sorted l) {c : Cel} (hc : c ∈ l) : (l.getD (lob c.1 l) ([], [])) = c := by
 have hd := drop_lob h c.1
 have hs := geF_sorted h c.1
 have hm : c ∈ geF c.1 l := mem_geF.2 ⟨hc, blt_irrefl _⟩
 rw [List.getD_eq_getElem?_getD, ← List.head?_drop, hd]
 cases hg : geF c.1 l with
 | nil => rw [hg] at hm; simp at hm
 | cons x r =>
  rw [hg] at hm hs
  rcases List.mem_cons.1 hm with rfl | hm
  ·rfl
  ·have h1 := hs.head c hm
   have h2 := (mem_geF.1 (by rw [hg]; exact List.mem_cons_self : x ∈ geF c.1 l)).2
   rw [h1] at h2; cases h2
theorem geF_gtF {l : List Cel} (h : Sorted l) (key : List UInt8) : geF key l = (if keyAt key l then [l.getD (lob key l) ([], [])] else []) ++ gtF key l := by
 split <;> rename_i hk
 ·obtain ⟨c, hc, rfl⟩ := (keyAt_iff h key).1 hk
  rw [keyAt_val h hc]
  have hs := geF_sorted h c.1
  have hm : c ∈ geF c.1 l := mem_geF.2 ⟨hc, blt_irrefl _⟩
  have hgt : gtF c.1 l = gtF c.1 (geF c.1 l) := by
   unfold gtF geF
   rw [List.filter_filter]
   congr 1
   funext x
   cases hx : Op.bytesLess c.1 x.1 with
   | false => simp
   | true => rw [blt_asymm hx]; rfl
  rw [hgt]
  cases hg : geF c.1 l with
  | nil => rw [hg] at hm; simp at hm
  | cons x r =>
   rw [hg] at hm hs
   have hx : x = c := by
    rcases List.mem_cons.1 hm with rfl | hm
    ·rfl
    ·have h1 := hs.head c hm
     have h2 := (mem_geF.1 (by rw [hg]; exact List.mem_cons_self : x ∈ geF c.1 l)).2
     rw [h1] at h2; cases h2
   subst hx
   rw [List.singleton_append]
   congr 1
   unfold gtF
   rw [List.filter_cons_of_neg (by rw [blt_irrefl]; decide), List.filter_eq_self.2]
   exact fun y hy => hs.head y hy
 ·rw [List.nil_append]
  unfold geF gtF
  refine List.filter_congr fun c hc => ?_
  cases h1 : Op.bytesLess c.1 key with
  | true => rw [blt_asymm h1]; rfl
  | false =>
   cases h2 : Op.bytesLess key c.1 with
   | true => rfl
   | false => exact absurd ((keyAt_iff h key).2 ⟨c, hc, blt_conn h1 h2⟩) hk
theorem putC_eq {l : List Cel} (h : Sorted l) (c : Cel) : putC c l = ltF c.1 l ++ c :: gtF c.1 l := by
 have hd := drop_lob h c.1
 rw [geF_gtF h] at hd
 unfold putC
 split <;> rename_i hk
 ·rw [if_pos hk] at hd
  have hlt := keyAt_lt hk
  rw [List.set_eq_take_append_cons_drop, if_pos hlt, take_lob h]
  congr 2
  rw [← List.drop_drop (i := 1), hd]; rfl
 ·rw [if_neg hk, List.nil_append] at hd
  rw [take_lob h, hd]
theorem putC_mem {l : List Cel} (h : Sorted l) (c x : Cel) : x ∈ putC c l ↔ x = c ∨ (x ∈ l ∧ x.1 ≠ c.1) := by
 rw [putC_eq h, List.mem_append, List.mem_cons, mem_ltF, mem_gtF]
 constructor
 ·rintro (⟨h1, h2⟩ | rfl | ⟨h1, h2⟩)
  ·exact .inr ⟨h1, fun e => by rw [e, blt_irrefl] at h2; cases h2⟩
  ·exact .inl rfl
  ·exact .inr ⟨h1, fun e => by rw [e, blt_irrefl] at h2; cases h2⟩
 ·rintro (rfl | ⟨h1, h2⟩)
  ·exact .inr (.inl rfl)
  ·cases h3 : Op.bytesLess x.1 c.1 with
   | true => exact .inl ⟨h1, rfl⟩
   | false =>
    cases h4 : Op.bytesLess c.1 x.1 with
    | true => exact .inr (.inr ⟨h1, rfl⟩)
    | false => exact absurd (blt_conn h3 h4) h2
theorem putC_sorted {l : List Cel} (h : Sorted l) (c : Cel) : Sorted (putC c l) := by
 rw [putC_eq h, sorted_iff, List.pairwise_append, List.pairwise_cons]
 refine ⟨sorted_iff.1 (ltF_sorted h _), ⟨fun x hx => (mem_gtF.1 hx).2, sorted_iff.1 (gtF_sorted h _)⟩, fun a ha b hb => ?_⟩
 rcases List.mem_cons.1 hb with rfl | hb
 ·exact (mem_ltF.1 ha).2
 ·exact blt_trans (mem_ltF.1 ha).2 (mem_gtF.1 hb).2
theorem putC_len {l : List Cel} (h : Sorted l) (c : Cel) : (putC c l).length = l.length + (if keyAt c.1 l then 0 else 1) := by
 unfold putC
 have := lob_le c.1 l
 split
 ·simp
 ·simp; omega
theorem sorted_ext : ∀ {a b : List Cel}, Sorted a → Sorted b → (∀ c, c ∈ a ↔ c ∈ b) → a = b
 | [], [], _, _, _ => rfl
 | [], y :: b, _, _, h => absurd ((h y).2 List.mem_cons_self) (by simp)
 | x :: a, [], _, _, h => absurd ((h x).1 List.mem_cons_self) (by simp)
 | x :: a, y :: b, ha, hb, h => by
  have hxy : x = y := by
   rcases List.mem_cons.1 ((h x).1 List.mem_cons_self) with e | hx
   ·exact e
   ·rcases List.mem_cons.1 ((h y).2 List.mem_cons_self) with e | hy
    ·exact e.symm
    ·have := blt_asymm (ha.head y hy)
     rw [hb.head x hx] at this; cases this
  subst hxy
  congr 1
  refine sorted_ext ha.tail hb.tail fun c => ?_
  constructor
  ·intro hc
   rcases List.mem_cons.1 ((h c).1 (List.mem_cons_of_mem _ hc)) with rfl | hc2
   ·have := ha.head c hc
    rw [blt_irrefl] at this; cases this
   ·exact hc2
  ·intro hc
   rcases List.mem_cons.1 ((h c).2 (List.mem_cons_of_mem _ hc)) with rfl | hc2
   ·have := hb.head c hc
    rw [blt_irrefl] at this; cases this
   ·exact hc2
/-- the first cell of a stretch -/
theorem hd1_some {l : List Cel} (h : Sorted l) {frm to : List UInt8} {c : Cel} (hc : c ∈ l) (h1 : Op.bytesLess c.1 frm = false) (h2 : Op.bytesLess c.1 to = true) (h3 : ∀ x ∈ l, Op.bytesLess x.1 frm = false → Op.bytesLess x.1 c.1 = false) : hd1 to (l.drop (lob frm l)) = [c] := by
 rw [drop_lob h]
 have hm := mem_geF.2 ⟨hc, h1⟩
 have hs := geF_sorted h frm
 cases hg : geF frm l with
 | nil => rw [hg] at hm; simp at hm
 | cons x r =>
  have hx := mem_geF.1 (by rw [hg]; exact List.mem_cons_self : x ∈ geF frm l)
  rw [hg] at hm hs
  have : x = c := by
   rcases List.mem_cons.1 hm with rfl | hm
   ·rfl
   ·have := h3 x hx.1 hx.2
    rw [hs.head c hm] at this; cases this
  subst this
  rw [hd1, if_pos h2]
theorem hd1_none {l : List Cel} (h : Sorted l) {frm to : List UInt8} (h1 : ∀ c ∈ l, Op.bytesLess c.1 frm = false → Op.bytesLess c.1 to = false) : hd1 to (l.drop (lob frm l)) = [] := by
 rw [drop_lob h]
 cases hg : geF frm l with
 | nil => rfl
 | cons x r =>
  have hx := mem_geF.1 (by rw [hg]; exact List.mem_cons_self : x ∈ geF frm l)
  rw [hd1, if_neg (by rw [h1 x hx.1 hx.2]; decide)]

/-! ### the cells of a database that holds some batches -/
structure LI (ds : List Bt) (l : List Cel) : Prop where
  so : Sorted l
  me : ∀ c, c ∈ l ↔ (ds ≠ [] ∧ c = titC ds.length) ∨ ∃ (t : Nat) (b : Bt) (w : Wt), ds[t]? = some b ∧ w ∈ b.2.2.2 ∧ c = verC (t + 1) w
  ck : ∀ b ∈ ds, chk b.2.2.2 = 0
  len : l.length ≤ (if ds = [] then 0 else 1) + 8 * ds.length
theorem LI.zero : LI [] [] := ⟨trivial, fun c => by simp, by simp, by simp⟩
theorem chk_w {ws : List Wt} (h : chk ws = 0) {w : Wt} (hw : w ∈ ws) : WrOK w := by
  obtain ⟨j, hj, rfl⟩ := wat_mem hw
  exact (chk_all h j hj).1
/-- the keys of a batch rise -/
theorem chk_rise {ws : List Wt} (h : chk ws = 0) : ∀ {i j : Nat}, i < j → j < ws.length → Op.bytesLess (wat ws i).1 (wat ws j).1 = true
  | i, 0, hij, _ => by omega
  | i, j + 1, hij, hj => by
    have h1 := (chk_all h (j + 1) hj).2 (by omega)
    rw [Nat.add_sub_cancel] at h1
    by_cases he : i = j
    · subst he; exact h1
    · exact blt_trans (chk_rise h (by omega : i < j) (by omega)) h1
/-- many puts -/
def putL (cs l : List Cel) : List Cel := cs.foldl (fun a c => putC c a) l
theorem putL_sorted : ∀ {cs l : List Cel}, Sorted l → Sorted (putL cs l)
  | [], l, h => h
  | c :: cs, l, h => putL_sorted (cs := cs) (putC_sorted h c)
theorem putL_mem : ∀ {cs l : List Cel}, Sorted l → cs.Pairwise (fun a b => a.1 ≠ b.1) → ∀ x, x ∈ putL cs l ↔ x ∈ cs ∨ (x ∈ l ∧ ∀ c ∈ cs, x.1 ≠ c.1)
  | [], l, h, _, x => by simp [putL]
  | c :: cs, l, h, hp, x => by
    rw [List.pairwise_cons] at hp
    show x ∈ putL cs (putC c l) ↔ _
    rw [putL_mem (putC_sorted h c) hp.2, putC_mem h]
    constructor
    · rintro (h1 | ⟨rfl | ⟨h1, h2⟩, h3⟩)
      · exact .inl (List.mem_cons_of_mem _ h1)
      · exact .inl List.mem_cons_self
      · refine .inr ⟨h1, fun y hy => ?_⟩
        rcases List.mem_cons.1 hy with rfl | hy
        · exact h2
        · exact h3 y hy
    · rintro (h1 | ⟨h1, h2⟩)
      · rcases List.mem_cons.1 h1 with rfl | h1
        · exact .inr ⟨.inl rfl, fun y hy => hp.1 y hy⟩
        · exact .inl h1
      · exact .inr ⟨.inr ⟨h1, h2 c List.mem_cons_self⟩, fun y hy => h2 y (List.mem_cons_of_mem _ hy)⟩
theorem putL_len : ∀ {cs l : List Cel}, Sorted l → (putL cs l).length ≤ l.length + cs.length
  | [], l, _ => Nat.le_refl _
  | c :: cs, l, h => by
    have h1 := putL_len (cs := cs) (putC_sorted h c)
    have h2 := putC_len h c
    rw [show putL (c :: cs) l = putL cs (putC c l) from rfl, List.length_cons]
    split at h2 <;> omega
theorem ver_ne_tit (n t : Nat) (w : Wt) : (verC t w).1 ≠ (titC n).1 := by
  intro h
  have := vkey_109 w.1 t []
  rw [show vkey w.1 t = [109] from h, blt_irrefl] at this; cases this
theorem com_keys {n : Nat} (hn : n < 18446744073709551616) {ws : List Wt} (h : chk ws = 0) : (comL n ws).Pairwise (fun a b => a.1 ≠ b.1) := by
  rw [comL, List.pairwise_cons]
  refine ⟨fun c hc e => ?_, ?_⟩
  · obtain ⟨w, _, rfl⟩ := List.mem_map.1 hc
    exact ver_ne_tit n n w e.symm
  · rw [List.pairwise_map, List.pairwise_iff_getElem]
    intro i j hi hj hij e
    have h1 := (vkey_inj hn hn e).1
    have h2 := chk_rise h hij hj
    rw [wat, wat, List.getD_eq_getElem?_getD, List.getD_eq_getElem?_getD, List.getElem?_eq_getElem hi, List.getElem?_eq_getElem hj] at h2
    simp only [Option.getD_some] at h2
    rw [h1, blt_irrefl] at h2; cases h2
theorem get_app_one {α : Type} (l : List α) (x : α) (t : Nat) (b : α) : (l ++ [x])[t]? = some b ↔ l[t]? = some b ∨ (t = l.length ∧ b = x) := by
  rw [List.getElem?_append]
  split
  · constructor
    · exact .inl
    · rintro (h | ⟨h, _⟩)
      · exact h
      · omega
  · rename_i ht
    constructor
    · intro h
      obtain ⟨h1, h2⟩ := List.getElem?_eq_some_iff.1 h
      simp at h1 h2
      exact .inr ⟨by omega, h2.symm⟩
    · rintro (h | ⟨rfl, rfl⟩)
      · have := (List.getElem?_eq_some_iff.1 h).1; omega
      · simp
theorem LI.step {ds : List Bt} {l : List Cel} (h : LI ds l) (b : Bt) (hc : chk b.2.2.2 = 0) (hd : ds.length ≤ 1000) : LI (ds ++ [b]) (putL (comL (ds.length + 1) b.2.2.2) l) := by
  have hl : (ds ++ [b]).length = ds.length + 1 := by simp
  have hk := com_keys (n := ds.length + 1) (by omega) hc
  have hwl := chk_len hc
  refine ⟨putL_sorted h.so, fun c => ?_, fun x hx => ?_, ?_⟩
  · rw [putL_mem h.so hk, h.me, hl]
    constructor
    · rintro (h1 | ⟨⟨h1, rfl⟩ | ⟨t, b', w, h1, h2, rfl⟩, h3⟩)
      · rw [comL] at h1
        rcases List.mem_cons.1 h1 with rfl | h1
        · exact .inl ⟨by simp, rfl⟩
        · obtain ⟨w, hw, rfl⟩ := List.mem_map.1 h1
          exact .inr ⟨ds.length, b, w, (get_app_one _ _ _ _).2 (.inr ⟨rfl, rfl⟩), hw, rfl⟩
      · exact absurd rfl (h3 (titC (ds.length + 1)) List.mem_cons_self)
      · exact .inr ⟨t, b', w, (get_app_one _ _ _ _).2 (.inl h1), h2, rfl⟩
    · rintro (⟨_, rfl⟩ | ⟨t, b', w, h1, h2, rfl⟩)
      · exact .inl List.mem_cons_self
      · rcases (get_app_one _ _ _ _).1 h1 with h1 | ⟨rfl, rfl⟩
        · have ht := (List.getElem?_eq_some_iff.1 h1).1
          refine .inr ⟨.inr ⟨t, b', w, h1, h2, rfl⟩, fun y hy e => ?_⟩
          rw [comL] at hy
          rcases List.mem_cons.1 hy with rfl | hy
          · exact ver_ne_tit _ _ _ e
          · obtain ⟨w', _, rfl⟩ := List.mem_map.1 hy
            have := (vkey_inj (by omega) (by omega) e).2
            omega
        · exact .inl (List.mem_cons_of_mem _ (List.mem_map.2 ⟨w, h2, rfl⟩))
  · rcases List.mem_append.1 hx with hx | hx
    · exact h.ck x hx
    · rw [List.mem_singleton.1 hx]; exact hc
  · rw [if_neg (by simp), hl]
    have h1 := putL_len (cs := b.2.2.2.map (verC (ds.length + 1))) (putC_sorted h.so (titC (ds.length + 1)))
    have h2 := putC_len h.so (titC (ds.length + 1))
    have h3 := h.len
    rw [show putL (comL (ds.length + 1) b.2.2.2) l = putL (b.2.2.2.map (verC (ds.length + 1))) (putC (titC (ds.length + 1)) l) from rfl]
    rw [List.length_map] at h1
    by_cases hn : ds = []
    · rw [if_pos hn] at h3
      have : ds.length = 0 := by rw [hn]; rfl
      split at h2 <;> omega
    · rw [if_neg hn] at h3
      have : keyAt (titC (ds.length + 1)).1 l = true := (keyAt_iff h.so _).2 ⟨titC ds.length, (h.me _).2 (.inl ⟨hn, rfl⟩), rfl⟩
      rw [if_pos this] at h2
      omega
theorem LI.db {ds : List Bt} {l : List Cel} (h : LI ds l) (hd : ds.length ≤ 1000) : DbOK l ds.length := by
  refine ⟨fun e => ?_, fun e => ?_, fun c hc => ?_⟩
  · cases ds with
    | nil => rfl
    | cons b r =>
      have := (h.me (titC (b :: r).length)).2 (.inl ⟨by simp, rfl⟩)
      rw [e] at this; simp at this
  · have hn : ds ≠ [] := by
      rintro rfl
      cases l with
      | nil => exact e rfl
      | cons c r => rcases (h.me c).1 List.mem_cons_self with ⟨h1, _⟩ | ⟨t, b, w, h1, _⟩
                    · exact h1 rfl
                    · simp at h1
    have hm := (h.me (titC ds.length)).2 (.inl ⟨hn, rfl⟩)
    exact ⟨(keyAt_iff h.so _).2 ⟨_, hm, rfl⟩, congrArg Prod.snd (keyAt_val h.so hm)⟩
  · rcases (h.me c).1 hc with ⟨_, rfl⟩ | ⟨t, b, w, h1, h2, rfl⟩
    · exact .inl rfl
    · have ht := (List.getElem?_eq_some_iff.1 h1).1
      exact .inr ⟨t + 1, w, rfl, chk_w (h.ck b (List.mem_of_getElem? h1)) h2, by omega, by omega⟩

/-! ### what is read -/
theorem verW_mem2 {key : List UInt8} {t : Nat} : ∀ {ws : List Wt} {x : Ver}, x ∈ verW key t ws ↔ ∃ w ∈ ws, w.1 = key ∧ x = (t, w)
 | [], x => by simp [verW]
 | w :: r, x => by
  rw [verW, List.mem_append, verW_mem2]
  by_cases h : w.1 = key
  ·rw [if_pos h]
   simp only [List.mem_cons, List.not_mem_nil, or_false]
   constructor
   ·rintro (rfl | ⟨w', h1, h2, h3⟩)
    ·exact ⟨w, .inl rfl, h, rfl⟩
    ·exact ⟨w', .inr h1, h2, h3⟩
   ·rintro ⟨w', rfl | h1, h2, h3⟩
    ·exact .inl h3
    ·exact .inr ⟨w', h1, h2, h3⟩
  ·rw [if_neg h]
   simp only [List.not_mem_nil, false_or, List.mem_cons]
   constructor
   ·rintro ⟨w', h1, h2, h3⟩
    exact ⟨w', .inr h1, h2, h3⟩
   ·rintro ⟨w', rfl | h1, h2, h3⟩
    ·exact absurd h2 h
    ·exact ⟨w', h1, h2, h3⟩
theorem verL_mem {key : List UInt8} : ∀ {ds : List Bt} {t : Nat} {x : Ver}, x ∈ verL key t ds ↔ ∃ (i : Nat) (b : Bt) (w : Wt), ds[i]? = some b ∧ w ∈ b.2.2.2 ∧ w.1 = key ∧ x = (t + i, w)
 | [], t, x => by simp [verL]
 | b :: r, t, x => by
  rw [verL, List.mem_append, verW_mem2, verL_mem]
  constructor
  ·rintro (⟨w, h1, h2, h3⟩ | ⟨i, b', w, h1, h2, h3, h4⟩)
   ·exact ⟨0, b, w, rfl, h1, h2, h3⟩
   ·exact ⟨i + 1, b', w, by simpa using h1, h2, h3, by rw [h4]; congr 1; omega⟩
  ·rintro ⟨i, b', w, h1, h2, h3, h4⟩
   cases i with
   | zero =>
    simp at h1
    subst h1
    exact .inl ⟨w, h2, h3, h4⟩
   | succ i => exact .inr ⟨i, b', w, by simpa using h1, h2, h3, by rw [h4]; congr 1; omega⟩
theorem verL_max {key : List UInt8} : ∀ {ds : List Bt} {t : Nat} {x : Ver}, (verL key t ds).getLast? = some x → ∀ y ∈ verL key t ds, y.1 ≤ x.1
 | [], t, x, h, y, hy => by simp [verL] at hy
 | b :: r, t, x, h, y, hy => by
  rw [verL] at h hy
  rw [List.getLast?_append] at h
  rcases List.mem_append.1 hy with hy | hy
  ·have h1 := verW_le y hy
   cases hg : (verL key (t + 1) r).getLast? with
   | some z =>
    rw [hg] at h
    simp at h
    subst h
    have := verL_ge z (List.mem_of_getLast? hg)
    omega
   | none =>
    rw [hg] at h
    have := verW_last h
    omega
  ·cases hg : (verL key (t + 1) r).getLast? with
   | some z =>
    rw [hg] at h
    simp at h
    subst h
    exact verL_max hg y hy
   | none =>
    rw [List.getLast?_eq_none_iff.1 hg] at hy
    simp at hy
theorem take_get {α : Type} {l : List α} {k i : Nat} {b : α} : (l.take k)[i]? = some b ↔ i < k ∧ l[i]? = some b := by
 rw [List.getElem?_take]
 split <;> rename_i h
 ·exact ⟨fun e => ⟨h, e⟩, fun e => e.2⟩
 ·exact ⟨fun e => (by cases e), fun e => absurd e.1 h⟩

theorem LI.get {ds : List Bt} {l : List Cel} (h : LI ds l) (hd : ds.length ≤ 1000) (key : List UInt8) (at_ : Nat) (hat : at_ ≤ ds.length) :
  ∃ r, RdIs l key at_ r ∧ r.2 = (valR (ds.take at_) key).2 ∧ (if r.2 then r.1 else []) = (valR (ds.take at_) key).1 := by
 have hin : ∀ c ∈ l, Op.bytesLess c.1 (vkey key at_) = false → Op.bytesLess c.1 (vkey key 0 ++ [0]) = true → ∃ (i : Nat) (b : Bt) (w : Wt), (ds.take at_)[i]? = some b ∧ w ∈ b.2.2.2 ∧ w.1 = key ∧ c = verC (i + 1) w := by
  intro c hc h1 h2
  rw [blt_snoc, Bool.not_eq_true'] at h2
  rcases (h.me c).1 hc with ⟨_, rfl⟩ | ⟨t, b, w, h3, h4, rfl⟩
  ·rw [show Op.bytesLess (vkey key 0) (titC ds.length).1 = true from vkey_109 _ _ _] at h2; cases h2
  ·have ht := (List.getElem?_eq_some_iff.1 h3).1
   rw [show Op.bytesLess (verC (t + 1) w).1 (vkey key at_) = kb w.1 (t + 1) key at_ from vkey_lt (by omega) (by omega)] at h1
   rw [show Op.bytesLess (vkey key 0) (verC (t + 1) w).1 = kb key 0 w.1 (t + 1) from vkey_lt (by omega) (by omega)] at h2
   unfold kb at h1 h2
   rw [Bool.or_eq_false_iff] at h1 h2
   have hk := blt_conn h1.1 h2.1
   have hta : ¬ at_ < t + 1 := by have := h1.2; rw [hk] at this; simpa using this
   exact ⟨t, b, w, take_get.2 ⟨by omega, h3⟩, h4, hk, rfl⟩
 cases hV : (verL key 1 (ds.take at_)).getLast? with
 | none =>
  have hV0 := List.getLast?_eq_none_iff.1 hV
  refine ⟨([], false), .inl ⟨hd1_none h.so fun c hc h1 => ?_, rfl⟩, ?_, ?_⟩
  ·cases h2 : Op.bytesLess c.1 (vkey key 0 ++ [0]) with
   | false => rfl
   | true =>
    obtain ⟨i, b, w, h3, h4, h5, _⟩ := hin c hc h1 h2
    have : (1 + i, w) ∈ verL key 1 (ds.take at_) := verL_mem.2 ⟨i, b, w, h3, h4, h5, rfl⟩
    rw [hV0] at this; simp at this
  ·rw [valR, atR, hV]; rfl
  ·rw [valR, atR, hV]; rfl
 | some x =>
  obtain ⟨i, b, w, h3, h4, h5, rfl⟩ := verL_mem.1 (List.mem_of_getLast? hV)
  have hmax := verL_max hV
  obtain ⟨hia, h3'⟩ := take_get.1 h3
  have hbm := List.mem_of_getElem? h3'
  have hwo := chk_w (h.ck b hbm) h4
  refine ⟨(w.2.1, !w.2.2), .inr ⟨i + 1, w, ?_, hwo, by omega, rfl⟩, ?_, ?_⟩
  ·refine hd1_some h.so ((h.me _).2 (.inr ⟨i, b, w, h3', h4, rfl⟩)) ?_ ?_ fun c hc h1 => ?_
   ·rw [show Op.bytesLess (verC (i + 1) w).1 (vkey key at_) = kb w.1 (i + 1) key at_ from vkey_lt (by omega) (by omega)]
    unfold kb
    rw [h5, blt_irrefl, beq_self_eq_true, Bool.false_or, Bool.true_and]
    exact decide_eq_false (by omega)
   ·rw [blt_snoc, show Op.bytesLess (vkey key 0) (verC (i + 1) w).1 = kb key 0 w.1 (i + 1) from vkey_lt (by omega) (by omega)]
    unfold kb
    rw [h5, blt_irrefl, beq_self_eq_true, Bool.false_or, Bool.true_and]
    simp
   ·cases h2 : Op.bytesLess c.1 (vkey key 0 ++ [0]) with
    | true =>
     obtain ⟨j, b', w', g3, g4, g5, rfl⟩ := hin c hc h1 h2
     have := hmax (1 + j, w') (verL_mem.2 ⟨j, b', w', g3, g4, g5, rfl⟩)
     have hj := (take_get.1 g3).1
     simp only at this
     rw [show Op.bytesLess (verC (j + 1) w').1 (verC (i + 1) w).1 = kb w'.1 (j + 1) w.1 (i + 1) from vkey_lt (by omega) (by omega)]
     unfold kb
     rw [h5, g5, blt_irrefl, beq_self_eq_true, Bool.false_or, Bool.true_and]
     exact decide_eq_false (by omega)
    | false =>
     rw [blt_snoc, Bool.not_eq_false'] at h2
     have hw0 : Op.bytesLess (vkey key 0) (verC (i + 1) w).1 = false := by
      rw [show Op.bytesLess (vkey key 0) (verC (i + 1) w).1 = kb key 0 w.1 (i + 1) from vkey_lt (by omega) (by omega)]
      unfold kb
      rw [h5, blt_irrefl, beq_self_eq_true, Bool.false_or, Bool.true_and]
      simp
     cases h6 : Op.bytesLess c.1 (verC (i + 1) w).1 with
     | false => rfl
     | true => rw [blt_trans h2 h6] at hw0; cases hw0
  ·rw [valR, atR, hV]
   simp only
   cases w.2.2 <;> rfl
  ·rw [valR, atR, hV]
   simp only
   cases w.2.2 <;> rfl
theorem valR_wr {ds : List Bt} {key v : List UInt8} (h : valR ds key = (v, true)) : ∃ (i : Nat) (b : Bt) (w : Wt), ds[i]? = some b ∧ w ∈ b.2.2.2 ∧ w.1 = key := by
 cases hV : (verL key 1 ds).getLast? with
 | none =>
  rw [valR, atR, hV] at h
  simp at h
 | some x =>
  obtain ⟨i, b, w, h3, h4, h5, _⟩ := verL_mem.1 (List.mem_of_getLast? hV)
  exact ⟨i, b, w, h3, h4, h5⟩

/-! ### what is scanned -/
theorem scStep_mem {bts : List Bt} {out : List Cel} (hs : Sorted out) (hv : ∀ c ∈ out, valR bts c.1 = (c.2, true)) (w : Wt) :
  Sorted (scStep bts out w) ∧ (∀ c ∈ scStep bts out w, valR bts c.1 = (c.2, true)) ∧ ∀ c, c ∈ scStep bts out w ↔ c ∈ out ∨ (c.1 = w.1 ∧ valR bts c.1 = (c.2, true)) := by
 have hput : keyAt w.1 out = false → out.take (lob w.1 out) ++ (w.1, (valR bts w.1).1) :: out.drop (lob w.1 out) = putC (w.1, (valR bts w.1).1) out := by
  intro h
  rw [putC, h, if_neg (by simp)]
 cases h2 : (valR bts w.1).2 with
 | false =>
  have he : scStep bts out w = out := by rw [scStep, h2]; rfl
  rw [he]
  refine ⟨hs, hv, fun c => ⟨.inl, ?_⟩⟩
  rintro (h | ⟨h, h3⟩)
  ·exact h
  ·rw [h] at h3; rw [h3] at h2; cases h2
 | true =>
  cases hk : keyAt w.1 out with
  | true =>
   have he : scStep bts out w = out := by rw [scStep, h2, hk]; rfl
   rw [he]
   refine ⟨hs, hv, fun c => ⟨.inl, ?_⟩⟩
   rintro (h | ⟨h, h3⟩)
   ·exact h
   ·obtain ⟨x, hx, hx1⟩ := (keyAt_iff hs w.1).1 hk
    have h4 := hv x hx
    rw [hx1, ← h, h3] at h4
    have : x = c := Prod.ext (hx1.trans h.symm) (congrArg Prod.fst h4).symm
    rw [← this]; exact hx
  | false =>
   have he : scStep bts out w = putC (w.1, (valR bts w.1).1) out := by rw [scStep, h2, hk, ← hput hk]; rfl
   have hval : valR bts w.1 = ((valR bts w.1).1, true) := Prod.ext rfl h2
   rw [he]
   refine ⟨putC_sorted hs _, fun c hc => ?_, fun c => ?_⟩
   ·rcases (putC_mem hs _ c).1 hc with rfl | ⟨h, _⟩
    ·exact hval
    ·exact hv c h
   ·rw [putC_mem hs]
    constructor
    ·rintro (rfl | ⟨h, _⟩)
     ·exact .inr ⟨rfl, hval⟩
     ·exact .inl h
    ·rintro (h | ⟨h, h3⟩)
     ·refine .inr ⟨h, fun e => ?_⟩
      rw [(keyAt_iff hs w.1).2 ⟨c, h, e⟩] at hk; cases hk
     ·refine .inl (Prod.ext h ?_)
      rw [h] at h3
      exact (congrArg Prod.fst h3).symm
theorem scW_mem {bts : List Bt} : ∀ {ws : List Wt} {out : List Cel}, Sorted out → (∀ c ∈ out, valR bts c.1 = (c.2, true)) →
  Sorted (scW bts out ws) ∧ (∀ c ∈ scW bts out ws, valR bts c.1 = (c.2, true)) ∧ ∀ c, c ∈ scW bts out ws ↔ c ∈ out ∨ ((∃ w ∈ ws, c.1 = w.1) ∧ valR bts c.1 = (c.2, true))
 | [], out, hs, hv => ⟨hs, hv, fun c => by simp [scW]⟩
 | w :: ws, out, hs, hv => by
  obtain ⟨a1, a2, a3⟩ := scStep_mem hs hv w
  obtain ⟨b1, b2, b3⟩ := scW_mem (ws := ws) a1 a2
  refine ⟨b1, b2, fun c => ?_⟩
  rw [show scW bts out (w :: ws) = scW bts (scStep bts out w) ws from rfl, b3, a3]
  constructor
  ·rintro ((h | ⟨h, h2⟩) | ⟨⟨x, hx, h⟩, h2⟩)
   ·exact .inl h
   ·exact .inr ⟨⟨w, List.mem_cons_self, h⟩, h2⟩
   ·exact .inr ⟨⟨x, List.mem_cons_of_mem _ hx, h⟩, h2⟩
  ·rintro (h | ⟨⟨x, hx, h⟩, h2⟩)
   ·exact .inl (.inl h)
   ·rcases List.mem_cons.1 hx with rfl | hx
    ·exact .inl (.inr ⟨h, h2⟩)
    ·exact .inr ⟨⟨x, hx, h⟩, h2⟩
theorem scB_mem {bts : List Bt} : ∀ {bs : List Bt} {out : List Cel}, Sorted out → (∀ c ∈ out, valR bts c.1 = (c.2, true)) →
  Sorted (scB bts out bs) ∧ ∀ c, c ∈ scB bts out bs ↔ c ∈ out ∨ ((∃ b ∈ bs, ∃ w ∈ b.2.2.2, c.1 = w.1) ∧ valR bts c.1 = (c.2, true))
 | [], out, hs, hv => ⟨hs, fun c => by simp [scB]⟩
 | b :: bs, out, hs, hv => by
  obtain ⟨a1, a2, a3⟩ := scW_mem (ws := b.2.2.2) hs hv
  obtain ⟨b1, b3⟩ := scB_mem (bs := bs) a1 a2
  refine ⟨b1, fun c => ?_⟩
  rw [show scB bts out (b :: bs) = scB bts (scW bts out b.2.2.2) bs from rfl, b3, a3]
  constructor
  ·rintro ((h | ⟨h, h2⟩) | ⟨⟨x, hx, h⟩, h2⟩)
   ·exact .inl h
   ·exact .inr ⟨⟨b, List.mem_cons_self, h⟩, h2⟩
   ·exact .inr ⟨⟨x, List.mem_cons_of_mem _ hx, h⟩, h2⟩
  ·rintro (h | ⟨⟨x, hx, h⟩, h2⟩)
   ·exact .inl (.inl h)
   ·rcases List.mem_cons.1 hx with rfl | hx
    ·exact .inl (.inr ⟨h, h2⟩)
    ·exact .inr ⟨⟨x, hx, h⟩, h2⟩
theorem scanR_mem (bts : List Bt) : Sorted (scanR bts) ∧ ∀ c, c ∈ scanR bts ↔ valR bts c.1 = (c.2, true) := by
 obtain ⟨h1, h2⟩ := scB_mem (bts := bts) (bs := bts) (out := []) trivial (by simp)
 refine ⟨h1, fun c => ?_⟩
 rw [scanR, h2]
 constructor
 ·rintro (h | ⟨_, h⟩)
  ·simp at h
  ·exact h
 ·intro h
  obtain ⟨i, b, w, h3, h4, h5⟩ := valR_wr h
  exact .inr ⟨⟨b, List.mem_of_getElem? h3, w, h4, h5.symm⟩, h⟩

/-! ### a scan goes from key to key -/
def AhF (l : List Cel) (F : List UInt8) (r : List UInt8 × Bool) : Prop := (hd1 [109] (l.drop (lob F l)) = [] ∧ r = ([], false)) ∨ ∃ t w, hd1 [109] (l.drop (lob F l)) = [verC t w] ∧ WrOK w ∧ t < 18446744073709551616 ∧ r = (w.1, true)
/-- F parts the cells whose key is greater than k from the others -/
def FrmOK (k F : List UInt8) : Prop := ∀ (t : Nat) (w : Wt), t ≤ 100000 → w.1 ≠ [] → Op.bytesLess (verC t w).1 F = !Op.bytesLess k w.1
theorem frm_start : FrmOK [] (fromS []) := by
 intro t w ht hw
 rw [fromS, if_neg (by simp), show (verC t w).1 = vkey w.1 t from rfl, vkey_lt (by omega) (by omega)]
 unfold kb
 rw [blt_nil, Bool.false_or, decide_eq_false (by omega), Bool.and_false]
 cases hw1 : w.1 with
 | nil => exact absurd hw1 hw
 | cons x r => rfl
theorem frm_next {k : List UInt8} (hk : k.length ≤ 64) : FrmOK k (fromS (k ++ [0])) := by
 intro t w ht hw
 rw [fromS, show (verC t w).1 = vkey w.1 t from rfl]
 split
 ·rename_i h
  have hk64 : k.length = 64 := by simp at h; omega
  rw [List.take_append_of_le_length (by omega), List.take_of_length_le (by omega), blt_snoc, vkey_lt (by omega) (by omega)]
  unfold kb
  simp
 ·rw [vkey_lt (by omega) (by omega)]
  unfold kb
  rw [decide_eq_false (by omega), Bool.and_false, Bool.or_false, blt_snoc]
theorem ver_cmp {t t' : Nat} {w w' : Wt} (ht : t ≤ 100000) (ht' : t' ≤ 100000) : Op.bytesLess (verC t w).1 (verC t' w').1 = kb w.1 t w'.1 t' := vkey_lt (by omega) (by omega)

theorem LI.sn {ds : List Bt} {l : List Cel} (h : LI ds l) (hd : ds.length ≤ 1000) (at_ : Nat) (hat : at_ ≤ ds.length) :
  ∀ (N : Nat) (k F : List UInt8), FrmOK k F → (geF F l).length ≤ N → ∃ n fst out, AhF l F fst ∧ Sn l at_ n fst out ∧ Sorted out ∧ ∀ c, c ∈ out ↔ Op.bytesLess k c.1 = true ∧ valR (ds.take at_) c.1 = (c.2, true) := by
 intro N
 induction N with
 | zero =>
  intro k F hF hN
  refine ⟨0, ([], false), [], .inl ⟨?_, rfl⟩, .stop _, trivial, fun c => ⟨fun h => by simp at h, fun ⟨h1, h2⟩ => ?_⟩⟩
  ·rw [drop_lob h.so, List.length_eq_zero_iff.1 (Nat.le_zero.1 hN)]; rfl
  ·exfalso
   obtain ⟨i, b, w, h3, h4, h5⟩ := valR_wr h2
   obtain ⟨hia, h3'⟩ := take_get.1 h3
   have hwo := chk_w (h.ck b (List.mem_of_getElem? h3')) h4
   have hm : verC (i + 1) w ∈ geF F l := mem_geF.2 ⟨(h.me _).2 (.inr ⟨i, b, w, h3', h4, rfl⟩), by rw [hF _ _ (by omega) hwo.k0, h5, h1]; rfl⟩
   rw [List.length_eq_zero_iff.1 (Nat.le_zero.1 hN)] at hm
   simp at hm
 | succ N ih =>
  intro k F hF hN
  have hs := geF_sorted h.so F
  cases hg : geF F l with
  | nil => exact (by
    refine ⟨0, ([], false), [], .inl ⟨?_, rfl⟩, .stop _, trivial, fun c => ⟨fun h => by simp at h, fun ⟨h1, h2⟩ => ?_⟩⟩
    ·rw [drop_lob h.so, hg]; rfl
    ·exfalso
     obtain ⟨i, b, w, h3, h4, h5⟩ := valR_wr h2
     obtain ⟨hia, h3'⟩ := take_get.1 h3
     have hwo := chk_w (h.ck b (List.mem_of_getElem? h3')) h4
     have hm : verC (i + 1) w ∈ geF F l := mem_geF.2 ⟨(h.me _).2 (.inr ⟨i, b, w, h3', h4, rfl⟩), by rw [hF _ _ (by omega) hwo.k0, h5, h1]; rfl⟩
     rw [hg] at hm
     simp at hm)
  | cons x r =>
   have hx := mem_geF.1 (by rw [hg]; exact List.mem_cons_self : x ∈ geF F l)
   rw [hg] at hs
   have hmin : ∀ c ∈ l, Op.bytesLess c.1 F = false → Op.bytesLess c.1 x.1 = false := by
    intro c hc h1
    have hm : c ∈ geF F l := mem_geF.2 ⟨hc, h1⟩
    rw [hg] at hm
    rcases List.mem_cons.1 hm with rfl | hm
    ·exact blt_irrefl _
    ·exact blt_asymm (hs.head c hm)
   rcases (h.me x).1 hx.1 with ⟨_, rfl⟩ | ⟨t, b, w, h3, h4, rfl⟩
   ·refine ⟨0, ([], false), [], .inl ⟨?_, rfl⟩, .stop _, trivial, fun c => ⟨fun h => by simp at h, fun ⟨h1, h2⟩ => ?_⟩⟩
    ·rw [drop_lob h.so, hg, hd1, if_neg (by rw [show Op.bytesLess (titC ds.length).1 [109] = false from rfl]; decide)]
    ·exfalso
     obtain ⟨i, b, w, h3, h4, h5⟩ := valR_wr h2
     obtain ⟨hia, h3'⟩ := take_get.1 h3
     have hwo := chk_w (h.ck b (List.mem_of_getElem? h3')) h4
     have h6 := hmin (verC (i + 1) w) ((h.me _).2 (.inr ⟨i, b, w, h3', h4, rfl⟩)) (by rw [hF _ _ (by omega) hwo.k0, h5, h1]; rfl)
     rw [show Op.bytesLess (verC (i + 1) w).1 (titC ds.length).1 = true from vkey_109 _ _ _] at h6
     cases h6
   ·have ht := (List.getElem?_eq_some_iff.1 h3).1
    have hwo := chk_w (h.ck b (List.mem_of_getElem? h3)) h4
    have hkw : Op.bytesLess k w.1 = true := by
     have := hx.2
     rw [hF _ _ (by omega) hwo.k0] at this
     simpa using this
    have hF' := frm_next hwo.k1
    have hlen : (geF (fromS (w.1 ++ [0])) l).length ≤ N := by
     have h1 : geF (fromS (w.1 ++ [0])) l = geF (fromS (w.1 ++ [0])) (geF F l) := by
      unfold geF
      rw [List.filter_filter]
      refine List.filter_congr fun c hc => ?_
      cases h5 : Op.bytesLess c.1 (fromS (w.1 ++ [0])) with
      | true => rfl
      | false =>
       rcases (h.me c).1 hc with ⟨_, rfl⟩ | ⟨t', b', w', g3, g4, rfl⟩
       ·cases h6 : Op.bytesLess (titC ds.length).1 F with
        | false => rfl
        | true =>
         exfalso
         have h7 := blt_trans (vkey_109 w.1 (t + 1) []) h6
         rw [show Op.bytesLess (vkey w.1 (t + 1)) F = false from hx.2] at h7
         cases h7
       ·have ht' := (List.getElem?_eq_some_iff.1 g3).1
        have hwo' := chk_w (h.ck b' (List.mem_of_getElem? g3)) g4
        rw [hF' _ _ (by omega) hwo'.k0] at h5
        rw [hF _ _ (by omega) hwo'.k0, blt_trans hkw (by simpa using h5)]
        rfl
     rw [h1, hg]
     unfold geF
     rw [List.filter_cons_of_neg]
     ·have := List.length_filter_le (fun c : Cel => !Op.bytesLess c.1 (fromS (w.1 ++ [0]))) r
      rw [hg] at hN
      simp at hN
      omega
     ·rw [hF' _ _ (by omega) hwo.k0, blt_irrefl]; decide
    obtain ⟨n, nx, out, a1, a2, a3, a4⟩ := ih w.1 _ hF' hlen
    obtain ⟨r0, b1, b2, b3⟩ := h.get hd w.1 at_ hat
    refine ⟨n + 1, (w.1, true), (if r0.2 then [(w.1, r0.1)] else []) ++ out, .inr ⟨t + 1, w, ?_, hwo, by omega, rfl⟩, .step hwo.k1 b1 a1 a2, ?_, fun c => ?_⟩
    ·rw [drop_lob h.so, hg, hd1, if_pos (show Op.bytesLess (verC (t + 1) w).1 [109] = true from vkey_109 _ _ _)]
    ·cases hr : r0.2 with
     | false => exact a3
     | true => exact Sorted.of_head (fun c hc => ((a4 c).1 hc).1) a3
    ·rw [List.mem_append, a4]
     constructor
     ·rintro (h1 | ⟨h1, h2⟩)
      ·cases hr : r0.2 with
       | false => rw [hr] at h1; simp at h1
       | true =>
        rw [hr] at h1 b2 b3
        simp at h1
        subst h1
        exact ⟨hkw, Prod.ext b3.symm b2.symm⟩
      ·exact ⟨blt_trans hkw h1, h2⟩
     ·rintro ⟨h1, h2⟩
      obtain ⟨i, b', w', g3, g4, g5⟩ := valR_wr h2
      obtain ⟨hia, g3'⟩ := take_get.1 g3
      have hwo' := chk_w (h.ck b' (List.mem_of_getElem? g3')) g4
      have h6 := hmin (verC (i + 1) w') ((h.me _).2 (.inr ⟨i, b', w', g3', g4, rfl⟩)) (by rw [hF _ _ (by omega) hwo'.k0, g5, h1]; rfl)
      rw [ver_cmp (by omega) (by omega)] at h6
      unfold kb at h6
      rw [Bool.or_eq_false_iff, g5] at h6
      cases h7 : Op.bytesLess w.1 c.1 with
      | true => exact .inr ⟨rfl, h2⟩
      | false =>
       have he := blt_conn h6.1 h7
       left
       rw [← he, h2] at b2 b3
       rw [if_pos b2] at b3 ⊢
       simp at b3
       rw [List.mem_singleton, b3]
       exact Prod.ext he rfl
theorem LI.scan {ds : List Bt} {l : List Cel} (h : LI ds l) (hd : ds.length ≤ 1000) (at_ : Nat) (hat : at_ ≤ ds.length) : ∃ n fst, AhIs l [] fst ∧ Sn l at_ n fst (scanR (ds.take at_)) := by
 obtain ⟨n, fst, out, a1, a2, a3, a4⟩ := h.sn hd at_ hat _ [] (fromS []) frm_start (Nat.le_refl _)
 obtain ⟨b1, b2⟩ := scanR_mem (ds.take at_)
 have : out = scanR (ds.take at_) := by
  refine sorted_ext a3 b1 fun c => ?_
  rw [a4, b2]
  refine ⟨fun h => h.2, fun h2 => ⟨?_, h2⟩⟩
  obtain ⟨i, b, w, h3, h4, h5⟩ := valR_wr h2
  have hwo := chk_w (h.ck b (List.mem_of_getElem? (take_get.1 h3).2)) h4
  rw [← h5]
  cases hw1 : w.1 with
  | nil => exact absurd hw1 hwo.k0
  | cons x r => rfl
 rw [this] at a2
 exact ⟨n, fst, a1, a2⟩

/-! ### how a page is split -/
theorem splitF_spec {l : List Cel} : ∀ {f k : Nat}, k < l.length → l.length ≤ k + f + 1 → k ≤ splitF l f k ∧ splitF l f k < l.length ∧ (splitF l f k + 1 < l.length → (cellsS l).length ≤ 2 * (cellsS (l.take (splitF l f k))).length) ∧ (k < splitF l f k → 2 * (cellsS (l.take (splitF l f k - 1))).length < (cellsS l).length)
 | 0, k, h, h2 => by
  rw [splitF]
  exact ⟨Nat.le_refl _, h, fun h3 => by omega, fun h3 => by omega⟩
 | f + 1, k, h, h2 => by
  rw [splitF]
  split
  ·rename_i h3
   obtain ⟨a1, a2, a3, a4⟩ := splitF_spec (l := l) (f := f) (k := k + 1) h3.1 (by omega)
   refine ⟨by omega, a2, a3, fun h4 => ?_⟩
   by_cases h5 : k + 1 < splitF l f (k + 1)
   ·exact a4 h5
   ·have : splitF l f (k + 1) = k + 1 := by omega
    rw [this, Nat.add_sub_cancel]; exact h3.2
  ·rename_i h3
   refine ⟨Nat.le_refl _, h, fun h4 => ?_, fun h4 => by omega⟩
   by_cases h5 : 2 * (cellsS (l.take k)).length < (cellsS l).length
   ·exact absurd ⟨h4, h5⟩ h3
   ·omega
theorem cellsS_bound {c : Nat} : ∀ {l : List Cel}, (∀ x ∈ l, (cpS x).length ≤ c) → (cellsS l).length ≤ l.length * c
 | [], _ => by simp [cellsS]
 | x :: l, h => by
  have h1 := h x List.mem_cons_self
  have h2 := cellsS_bound (l := l) fun y hy => h y (List.mem_cons_of_mem _ hy)
  rw [show x :: l = [x] ++ l from rfl, cellsS_app, cellsS_one, List.length_append, List.length_append, Nat.add_mul, List.length_singleton]
  omega
/-- the halves of a page that is too long -/
theorem split_ok {l : List Cel} {c : Nat} (h2 : 2 ≤ l.length) (hc : ∀ x ∈ l, (cpS x).length ≤ c) (hB : 2 * c < (cellsS l).length) :
  0 < splitK l ∧ splitK l < l.length ∧ (cellsS l).length = (cellsS (l.take (splitK l))).length + (cellsS (l.drop (splitK l))).length ∧
  (cellsS l).length ≤ 2 * (cellsS (l.take (splitK l))).length ∧ 2 * (cellsS (l.take (splitK l))).length ≤ (cellsS l).length + 2 * c ∧
  (cellsS (l.take (splitK l))).length ≤ splitK l * c ∧ (cellsS (l.drop (splitK l))).length ≤ (l.length - splitK l) * c := by
 obtain ⟨a1, a2, a3, a4⟩ := splitF_spec (l := l) (f := l.length) (k := 1) (by omega) (by omega)
 rw [show splitF l l.length 1 = splitK l from rfl] at a1 a2 a3 a4
 obtain ⟨K, hK⟩ : ∃ K, splitK l = K := ⟨_, rfl⟩
 rw [hK] at a1 a2 a3 a4 ⊢
 have hsum : (cellsS l).length = (cellsS (l.take K)).length + (cellsS (l.drop K)).length := by
  rw [← List.length_append, ← cellsS_app, List.take_append_drop]
 have hl := cellsS_bound (l := l.take K) fun x hx => hc x (List.mem_of_mem_take hx)
 have hr := cellsS_bound (l := l.drop K) fun x hx => hc x (List.mem_of_mem_drop hx)
 rw [List.length_take, Nat.min_eq_left (by omega)] at hl
 rw [List.length_drop] at hr
 have hbig : (cellsS l).length ≤ 2 * (cellsS (l.take K)).length := by
  by_cases h : K + 1 < l.length
  ·exact a3 h
  ·have : l.length - K = 1 := by omega
   rw [this, Nat.one_mul] at hr
   omega
 have hsm : 2 * (cellsS (l.take K)).length ≤ (cellsS l).length + 2 * c := by
  have hstep : (cellsS (l.take K)).length ≤ (cellsS (l.take (K - 1))).length + c := by
   have hlt : K - 1 < l.length := by omega
   have he : l.take K = l.take (K - 1) ++ [l[K - 1]] := by
    have := List.take_succ_eq_append_getElem (l := l) (i := K - 1) hlt
    rwa [show K - 1 + 1 = K by omega] at this
   rw [he, cellsS_app, cellsS_one, List.length_append]
   have := hc _ (List.getElem_mem hlt)
   omega
  by_cases h : 1 < K
  ·have := a4 h; omega
  ·have h1 : K = 1 := by omega
   rw [h1, Nat.one_mul] at hl
   rw [h1]
   omega
 exact ⟨by omega, a2, hsum, hbig, hsm, hl, hr⟩
theorem cp_le {c : Cel} {a b : Nat} (h1 : c.1.length ≤ a) (h2 : c.2.length ≤ b) (ha : a < 16384) (hb : b < 16384) : (cpS c).length ≤ a + b + 4 := by
 have e1 := vput_le c.1.length 1 (by simp; omega)
 have e2 := vput_le c.2.length 1 (by simp; omega)
 simp [cpS, tput]
 omega
theorem vput2 {n : Nat} (h : n < 16384) : (vput n).length ≤ 2 := vput_le n 1 (by simp; omega)
end Go.Proofs.YtefipnajpabfgaaGreatDoor
