/- Part 19 of the proof: what functions of the program do, and plain facts on what they compute. -/
import Derived.Test.YtefipnajpabfgaaGreatDoorP18
set_option linter.all false
set_option maxRecDepth 40000
set_option maxHeartbeats 16000000
set_option linter.unusedSimpArgs false
set_option linter.unusedVariables false
namespace Go.Proofs.YtefipnajpabfgaaGreatDoor
open Go.Nm

/-- what a view of sectors must be for store.Open to find the commits css -/
structure OpnS (v : Sec) (css : List (List Cel)) : Prop where
 s0 : sget 0 v = none
 s1 : sget 1 v = none
 ok : SecOK v
 f : ∃ F : Nat → Option (Nat × List (List UInt8)), (∀ i, i < 8 → SegIs v i (F i)) ∧ AllOK (foundL F 8) ∧ (outL ((foundL F 8).take (takenN (foundL F 8)))).map Prod.snd = css.map showS
def wax : List Wt := [([97], [120], false)]

theorem alive_ok (hR0 : Reads W0 []) (W1 : PgM) (m1 : Nat) (l1 : List Cel) (b : LogS) (hC : Cnt W0 1) (hL : LApp (showS (comL 1 wax)) A0 b) (hP : Puts W0 1 (comL 1 wax) W1 m1) (hR1 : Reads W1 l1) (hl1 : l1.length ≤ 90000) (hD : DbOK l1 1) (hRd : RdIs l1 [97] 1 ([120], true)) (hv : SecOK b.v) (hO : ∀ v', v'.Perm b.v → OpnS v' [comL 1 wax])
  (hc2 : ∀ c ∈ comL 1 wax, c.1.length ≤ 240 ∧ c.1.length + c.2.length ≤ 480) : CallT Tryz.prog 7 [] [] fun r σ => r = .u (.b true) ∧ σ = [] := by
 have hfr := fresh_ok hR0
 have hcm := vcommit_ok W0 W1 1 m1 wax (some 1) none (some 0) A0 b 0 0 1 [] (by decide) rfl (by omega) hC (by omega) hL hP hc2
 have hsy := ssync_ok W1 (.fz (b.sg.map segrow) none) (.fz (bs b.st) none) b.last 0 b.v [] b.P hv
 unfold vwN at hcm
 unfold vwL vwm A0 at hfr hcm
 unfold sto at hsy
 simp only [wax, List.map_cons, List.map_nil, wrow] at hcm

 refine cof 61 [.tmp 0] Tryz.func7 Tryz.ntmps7 fun c hnt hc0 => ?_
 refine sq fun _ k1 => rgn 0 ?_
 repeat refine ⟨sd, ?_⟩
 refine k1 (sq fun _ k2 => rgn 0 ?_)
 repeat refine ⟨sd, ?_⟩
 refine callT_new hfr mB ?_
 refine fxl ?_
 refine evl ?_
 repeat refine ⟨sd, ?_⟩
 refine k2 (sq fun _ k3 => sq fun _ k4 => rgn 0 ?_)
 repeat refine ⟨sd, ?_⟩
 refine callT_atN [0, 1, 2, 3, 4, 5, 6, 7, 8, 9, 10, 11, 12] [_, _, _, _, _, _, _, _, _, _, _, _, _] (τ := [_, _, _, _, _, _, _, _, _, _, _, _, _]) hcm rfl rfl ⟨rfl, rfl, rfl, rfl, rfl, rfl, rfl, rfl, rfl, rfl, rfl, rfl, rfl, trivial⟩ mB mB rfl ?_
 refine fxl ?_
 refine evl ?_
 repeat refine ⟨sd, ?_⟩
 refine k4 (cd rfl (fun h1 => ?_) (fun h1 => ?_))
 ·exact absurd h1 (by simp)
 ·refine wps_skip (k3 (sq fun _ k5 => rgn 0 ?_))
  repeat refine ⟨sd, ?_⟩
  refine callT_atNE [1, 2, 3, 4, 5, 6, 7, 8, 9, 10, 13, 12] [_, _, _, _, _, _, _, _, _, _, _, _] hsy rfl rfl ⟨rfl, rfl, rfl, rfl, rfl, rfl, rfl, rfl, rfl, rfl, rfl, rfl, trivial⟩ mB mB (fun _ => rfl) (fun g' hg' => ?_)
  have hcr := crash_ok b.v g' [] [] (some 0) (hv.perm hg') (by simp) (by simp) (by simp)
  unfold dsk dskC at hcr
  simp only [List.map_nil, crashG] at hcr
  refine fxl ?_
  refine evl ?_
  repeat refine ⟨sd, ?_⟩
  refine k5 (sq fun _ k6 => rgn 0 ?_)
  repeat refine ⟨sd, ?_⟩
  refine callT_atNE [8, 9, 14, 15] [_, _, _, _] hcr rfl rfl ⟨rfl, rfl, rfl, rfl, trivial⟩ mB mB (fun _ => rfl) (fun v' hv' => ?_)
  obtain ⟨s0, s1, s2, F, s3, s4, s5⟩ := hO v' (hv'.trans hg')
  have ho := sopen_ok v' g' F _ [comL 1 wax] W1 m1 s0 s1 s2 s3 s4 rfl s5 (.cons hC (by omega) (by decide) hc2 hP (.nil _ _)) (by simp)
  simp only [opn_app] at ho
  unfold opnD opnN dsk dskC at ho
  refine fxl ?_
  refine evl ?_
  repeat refine ⟨sd, ?_⟩
  refine k6 (sq fun _ k7 => rgn 0 ?_)
  repeat refine ⟨sd, ?_⟩
  refine callT_atNE [8, 16, 14, 17] [_, _, _, _] ho rfl rfl ⟨rfl, rfl, rfl, rfl, trivial⟩ mB mB (fun _ => rfl) (fun g2 hg2 => ?_)
  generalize ((foundL F 8).take (takenN (foundL F 8))).map segOf = sg2
  generalize lastL ((foundL F 8).take (takenN (foundL F 8))) = la2
  generalize (freeU sg2 8 (v', [])).1 = v2
  have hvo := vopen_ok W1 l1 1 (.fz (sg2.map segrow) none) (.fz [] (some 0)) la2 la2 v2 g2 [] hR1 hl1 hD (by omega)
  have hvg := vget_ok W1 l1 (.fz (sg2.map segrow) none) (.fz [] (some 0)) la2 la2 v2 g2 [] 1 [97] 1 ([120], true) hR1 hl1 (by decide) (by decide) (by omega) hRd
  unfold sto at hvo
  unfold vwm at hvg
  simp only [List.map_nil] at hvo hvg
  refine fxl ?_
  refine evl ?_
  repeat refine ⟨sd, ?_⟩
  refine k7 (sq fun _ k8 => sq fun _ k9 => rgn 0 ?_)
  repeat refine ⟨sd, ?_⟩
  refine k9 (cd rfl (fun h2 => ?_) (fun h2 => ?_))
  ·exact absurd h2 (by simp)
  ·refine wps_skip (k8 (sq fun _ k10 => rgn 0 ?_))
   repeat refine ⟨sd, ?_⟩
   refine callT_atN [27, 23, 22, 19, 20, 21, 18, 8, 16, 25, 26, 24] [_, _, _, _, _, _, _, _, _, _, _, _] (τ := [_, _, _, _, _, _, _, _, _, _, _, _]) hvo rfl rfl ⟨rfl, rfl, rfl, rfl, rfl, rfl, rfl, rfl, rfl, rfl, rfl, rfl, trivial⟩ mB mB rfl ?_
   refine fxl ?_
   refine evl ?_
   repeat refine ⟨sd, ?_⟩
   refine k10 (sq fun _ k11 => sq fun _ k12 => rgn 0 ?_)
   repeat refine ⟨sd, ?_⟩
   refine k12 (cd rfl (fun h3 => ?_) (fun h3 => ?_))
   ·exact absurd h3 (by simp)
   ·refine wps_skip (k11 (sq fun _ k13 => rgn 0 ?_))
    repeat refine ⟨sd, ?_⟩
    refine callT_at [28, 27, 23, 22, 19, 20, 21, 18, 8, 16, 25, 26, 24] [_, _, _, _, _, _, _, _, _, _, _, _, _] hvg rfl rfl ⟨rfl, rfl, rfl, rfl, rfl, rfl, rfl, rfl, rfl, rfl, rfl, rfl, rfl, trivial⟩ mB mB rfl mR mR ?_
    refine evl ?_
    repeat refine ⟨sd, ?_⟩
    refine k13 (sq fun _ k14 => rgn 0 ?_)
    repeat refine ⟨sd, ?_⟩
    refine k14 (wps_ret ?_)
    refine retL [] mA mO rfl rfl ?_
    exact mT

/-! ### the judge's law: nobody has written a committed batch's keys behind its start -/
theorem aget_aput {α β : Type} [BEq α] [LawfulBEq α] (k k' : α) (x : β) : ∀ l : List (α × β), aget k (aput k' x l) = if k == k' then some x else aget k l
 | [] => by simp [aput, aget]
 | e :: es => by
  simp only [aput]
  by_cases h : (k' == e.1) = true
  ·rw [if_pos h]
   have := eq_of_beq h
   simp only [aget]
   rw [← this]
   by_cases h2 : (k == k') = true
   ·simp [h2]
   ·simp [h2]
  ·rw [if_neg h]
   simp only [aget]
   rw [aget_aput k k' x es]
   by_cases h2 : (k == e.1) = true
   ·have hk := eq_of_beq h2
    rw [if_pos h2]
    rw [if_neg (by rw [hk]; intro h3; exact h (by rw [eq_of_beq h3]; simp))]
    rw [if_pos h2]
   ·rw [if_neg h2, if_neg h2]
theorem getK_aput (k k' : List UInt8) (n : Int) (ks : List (List UInt8 × Int)) : getK (aput k' n ks) k = if k = k' then n else getK ks k := by
 unfold getK
 rw [aget_aput]
 by_cases h : k = k'
 ·subst h; simp
 ·rw [if_neg h, if_neg (by simpa using h)]

theorem getK_cmI (ws : List Wt) (n : Int) (k : List UInt8) : ∀ (f i : Nat) (ks : List (List UInt8 × Int)),
  ((∃ j, i ≤ j ∧ j < i + f ∧ (wat ws j).1 = k) → getK (cmI ws n f i ks) k = n) ∧ ((∀ j, i ≤ j → j < i + f → ¬ (wat ws j).1 = k) → getK (cmI ws n f i ks) k = getK ks k)
 | 0, i, ks => ⟨fun ⟨j, h1, h2, _⟩ => by omega, fun _ => rfl⟩
 | f + 1, i, ks => by
  obtain ⟨ih1, ih2⟩ := getK_cmI ws n k f (i + 1) (aput (wat ws i).1 n ks)
  rw [cmI]
  constructor
  ·rintro ⟨j, h1, h2, h3⟩
   by_cases hex : ∃ j, i + 1 ≤ j ∧ j < i + 1 + f ∧ (wat ws j).1 = k
   ·exact ih1 hex
   ·have hj : j = i := by
     by_cases hj : j = i
     ·exact hj
     ·exact absurd ⟨j, by omega, by omega, h3⟩ hex
    subst hj
    rw [ih2 fun j' h1' h2' h3' => hex ⟨j', h1', h2', h3'⟩, getK_aput, if_pos h3.symm]
  ·intro h
   rw [ih2 fun j h1 h2 => h j (by omega) (by omega), getK_aput, if_neg fun e => h i (Nat.le_refl _) (by omega) e.symm]

theorem wrI_no {ks : List (List UInt8 × Int)} {ws : List Wt} {s : Int} : ∀ {n i : Nat}, wrI ks ws s n i = false → ∀ j, i ≤ j → j < i + n → getK ks (wat ws j).1 ≤ s
 | 0, i, _, j, h1, h2 => by omega
 | n + 1, i, h, j, h1, h2 => by
  rw [wrI] at h
  split at h
  ·cases h
  ·rename_i hs
   by_cases he : j = i
   ·subst he; simp at hs; exact hs
   ·exact wrI_no h j (by omega) (by omega)

/-- the number of the last batch that writes a key -/
def lastW (key : List UInt8) (ds : List Bt) : Nat := match (verL key 1 ds).getLast? with
 | none => 0
 | some x => x.1
theorem verW_mem {key : List UInt8} {t : Nat} : ∀ {ws : List Wt}, verW key t ws ≠ [] ↔ ∃ w ∈ ws, w.1 = key
 | [] => by simp [verW]
 | w :: r => by
  have := verW_mem (key := key) (t := t) (ws := r)
  rw [verW]
  by_cases h : w.1 = key
  ·simp [h]
  ·rw [if_neg h, List.nil_append, this]
   simp [h]
theorem verW_last {key : List UInt8} {t : Nat} {ws : List Wt} {x : Ver} (h : (verW key t ws).getLast? = some x) : x.1 = t := verW_le x (List.mem_of_getLast? h)
theorem lastW_app (key : List UInt8) (ds : List Bt) (b : Bt) : lastW key (ds ++ [b]) = if ∃ w ∈ b.2.2.2, w.1 = key then ds.length + 1 else lastW key ds := by
 unfold lastW
 rw [verL_app, verL, verL, List.append_nil, List.getLast?_append]
 by_cases h : ∃ w ∈ b.2.2.2, w.1 = key
 ·rw [if_pos h]
  obtain ⟨x, hx⟩ : ∃ x, (verW key (1 + ds.length) b.2.2.2).getLast? = some x := by
   cases hg : (verW key (1 + ds.length) b.2.2.2).getLast? with
   | some x => exact ⟨x, rfl⟩
   | none => exact absurd (List.getLast?_eq_none_iff.1 hg) (verW_mem.2 h)
  rw [hx]
  have := verW_last hx
  simp; omega
 ·rw [if_neg h]
  have : verW key (1 + ds.length) b.2.2.2 = [] := by
   by_cases hn : verW key (1 + ds.length) b.2.2.2 = []
   ·exact hn
   ·exact absurd (verW_mem.1 hn) h
  rw [this]; simp
theorem verL_ge {key : List UInt8} : ∀ {bts : List Bt} {t : Nat}, ∀ x ∈ verL key t bts, t ≤ x.1
 | [], t, x, h => by simp [verL] at h
 | b :: r, t, x, h => by
  rw [verL] at h
  rcases List.mem_append.1 h with h | h
  ·have := verW_le x h; omega
  ·have := verL_ge x h; omega
theorem valR_stay {key : List UInt8} {ds : List Bt} {s : Nat} (h : lastW key ds ≤ s) (hs : s ≤ ds.length) : valR (ds.take s) key = valR ds key := by
 have h1 : verL key 1 ds = verL key 1 (ds.take s) ++ verL key (1 + s) (ds.drop s) := by
  conv => lhs; rw [← List.take_append_drop s ds]
  rw [verL_app, List.length_take, Nat.min_eq_left hs]
 have h2 : verL key (1 + s) (ds.drop s) = [] := by
  cases hv : (verL key (1 + s) (ds.drop s)).getLast? with
  | none => exact List.getLast?_eq_none_iff.1 hv
  | some x =>
   unfold lastW at h
   rw [h1, List.getLast?_append, hv] at h
   have := verL_ge x (List.mem_of_getLast? hv)
   simp at h
   omega
 rw [valR, valR, h1, h2, List.append_nil]

structure JI (ds : List Bt) (J : Jd) : Prop where
 last : J.last = ds.length
 ks : ∀ key, getK J.ks key = (lastW key ds : Int)
theorem JI.zero : JI [] ⟨0, [], []⟩ := ⟨rfl, fun _ => rfl⟩
theorem ji_say {ds : List Bt} {J : Jd} (h : JI ds J) (cl r s : Int) (ws : List Wt) (hs : 0 ≤ s) :
  ((sayS J cl r s ws).2.last = ds.length ∧ JI ds (sayS J cl r s ws).2) ∨
  ((sayS J cl r s ws).2.last = ds.length + 1 ∧ chk ws = 0 ∧ s ≤ ds.length ∧ (∀ w ∈ ws, valR (ds.take s.toNat) w.1 = valR ds w.1) ∧ JI (ds ++ [(cl, r, s, ws)]) (sayS J cl r s ws).2) := by
 have hl := h.last
 unfold sayS
 by_cases c0 : (chk ws != 0) = true
 ·rw [if_pos c0]; exact .inl ⟨hl, h⟩
 rw [if_neg c0]
 split
 ·exact .inl ⟨hl, h⟩
 split
 ·exact .inl ⟨hl, h⟩
 split
 ·exact .inl ⟨hl, h⟩
 rename_i c3
 split
 ·exact .inl ⟨hl, h⟩
 split
 ·exact .inl ⟨hl, ⟨hl, h.ks⟩⟩
 rename_i c5
 have hck : chk ws = 0 := by simpa using c0
 have hsl : s ≤ ds.length := by simp at c3; omega
 refine .inr ⟨by simp only; omega, hck, hsl, fun w hw => ?_, ⟨by simp only [List.length_append, List.length_singleton]; omega, fun key => ?_⟩⟩
 ·obtain ⟨j, hj, rfl⟩ := wat_mem hw
  have := wrI_no (by simpa using c5) j (Nat.zero_le _) (by omega)
  rw [h.ks] at this
  exact valR_stay (by omega) (by omega)
 ·rw [lastW_app]
  obtain ⟨b1, b2⟩ := getK_cmI ws (J.last + 1) key ws.length 0 J.ks
  split <;> rename_i hex
  ·obtain ⟨w, hw, hk⟩ := hex
   obtain ⟨j, hj, rfl⟩ := wat_mem hw
   have hj' : j < ws.length := hj
   rw [b1 ⟨j, Nat.zero_le _, by omega, hk⟩]; omega
  ·rw [b2 fun j _ hj hk => hex ⟨wat ws j, by rw [wat]; exact getD_mem (l := ws) (by omega), hk⟩, h.ks]

/-- what a database is that holds the batches ds -/
structure DbF (ds : List Bt) (W : PgM) (m : Nat) (l : List Cel) : Prop where
 rd : Reads W l
 len : l.length ≤ 90000
 ok : DbOK l ds.length
 cnt : Cnt W m
 m64 : m ≤ 64
 get : ∀ (key : List UInt8) (at_ : Nat), key.length ≤ 64 → at_ ≤ ds.length → ∃ r, RdIs l key at_ r ∧ r.2 = (valR (ds.take at_) key).2 ∧ (if r.2 then r.1 else []) = (valR (ds.take at_) key).1
 scan : ∀ at_ : Nat, at_ ≤ ds.length → ∃ n fst, AhIs l [] fst ∧ Sn l at_ n fst (scanR (ds.take at_))
/-- the database's inside, whatever it is -/
structure DbInv (Inv : List Bt → PgM → Nat → List Cel → LogS → Prop) : Prop where
 zero : Inv [] W0 1 [] A0
 fact : ∀ {ds W m l a}, Inv ds W m l a → DbF ds W m l
 step : ∀ {ds W m l a} (cl r s : Int) (ws : List Wt), Inv ds W m l a → ds.length < 12 → chk ws = 0 → ∃ W' m' l' b, LApp (showS (comL (ds.length + 1) ws)) a b ∧ Puts W m (comL (ds.length + 1) ws) W' m' ∧ Inv (ds ++ [(cl, r, s, ws)]) W' m' l' b
theorem cast0 : ((0 : Nat) : Int) = 0 := rfl
theorem brow_ok1 (l : List Bt) : ∀ y ∈ l.map brow, y.length = 4 := by
 intro y hy
 obtain ⟨x, _, rfl⟩ := List.mem_map.1 hy
 rfl
theorem brow_ok2 (l : List Bt) : ∀ y ∈ l.map brow, ∀ p ∈ y, PV.one p = true := by
 intro y hy p hp
 obtain ⟨x, _, rfl⟩ := List.mem_map.1 hy
 simp only [brow, List.mem_cons, List.not_mem_nil, or_false] at hp
 rcases hp with rfl | rfl | rfl | rfl <;> rfl
theorem scB_le (bts : List Bt) : ∀ (l : List Bt) (out : List Cel), (∀ b ∈ l, b.2.2.2.length ≤ 20) → (scB bts out l).length ≤ out.length + 20 * l.length
 | [], out, _ => by simp [scB]
 | b :: r, out, h => by
  have h1 := scW_len bts b.2.2.2 out
  have h2 := scB_le bts r (scW bts out b.2.2.2) fun x hx => h x (List.mem_cons_of_mem _ hx)
  have h3 := h b (List.mem_cons_self)
  rw [scB] at h2 ⊢
  rw [List.foldl_cons, List.length_cons]
  omega
theorem scanR_len (bts : List Bt) (hb : bts.length ≤ 20) (h : ∀ b ∈ bts, b.2.2.2.length ≤ 20) : (scanR bts).length ≤ 90000 := by
 have := scB_le bts bts [] h
 rw [scanR]
 simp at this; omega
theorem dget_ok {ds : List Bt} {W : PgM} {m : Nat} {l : List Cel} (a : LogS) (q1 q2 : Option Nat) (h : DbF ds W m l) (key : List UInt8) (at_ : Nat) (hk : key.length ≤ 64) (hat : at_ ≤ ds.length) (hds : ds.length ≤ 1000000 := by omega) : CallT Tryz.prog 11 [.p 0 0, .u (.s key), .u (.i .u64 (at_ : Int))] (vwL W a q1 q2 0 [] ds.length)
  fun r σ => r = .tup [.u (.s (valR (ds.take at_) key).1), .u (.i .i64 (if (valR (ds.take at_) key).2 then 0 else 161))] ∧ σ = vwL W a q1 q2 0 [] ds.length := by
 obtain ⟨r, h1, h2, h3⟩ := h.get key at_ hk hat
 have := vget_ok W l (.fz (a.sg.map segrow) q1) (.fz (bs a.st) q2) a.last 0 a.v [] a.P ds.length key at_ r h.rd h.len hk (by omega) hat h1
 rw [h3, h2] at this
 exact this
theorem comL_size {n : Nat} {ws : List Wt} (h : chk ws = 0) (hn : n ≤ 1000000) : ∀ c ∈ comL n ws, c.1.length ≤ 240 ∧ c.1.length + c.2.length ≤ 480 := by
 intro c hc
 rw [comL] at hc
 rcases List.mem_cons.1 hc with rfl | hc
 ·have h1 := vput_10 n (by omega)
  have h2 := vput_10 0 (by omega)
  simp only [titC, List.length_append, List.length_singleton]
  omega
 ·obtain ⟨w, hw, rfl⟩ := List.mem_map.1 hc
  obtain ⟨j, hj, rfl⟩ := wat_mem hw
  have hw := (chk_all h j hj).1
  have h1 := hw.k1
  have h2 := hw.v1
  have h3 := esc_len (wat ws j).1
  have h4 : (vval (wat ws j)).length ≤ 257 := by
   unfold vval
   split
   ·simp
   ·rw [List.length_cons]; omega
  have h5 : (vkey (wat ws j).1 n).length ≤ 139 := by
   unfold vkey keyS
   simp only [List.length_cons, List.length_append, List.length_nil, be8_len]
   omega
  simp only [verC]
  omega

theorem commits_ok {Inv : List Bt → PgM → Nat → List Cel → LogS → Prop} (hI0 : DbInv Inv) (hal : CallT Tryz.prog 7 [] [] fun r σ => r = .u (.b true) ∧ σ = []) (bts : List Bt) (q : Option Nat) (key : List UInt8) (hb : bts.length ≤ 9223372036854775807) (hpos : ∀ b ∈ bts, 0 ≤ b.2.2.1) : CallT Tryz.prog 3 [.u (.fz (bts.map brow) q), .u (.s key)] []
  fun r σ => r = .u (.b true) ∧ σ = [] := by
 have hfr := fresh_ok (hI0.fact hI0.zero).rd
 have hnw := new_ok 0
 have hall := all_ok
 unfold vwL vwm A0 at hfr
 simp only [show bs [] = [] from rfl] at hfr
 unfold jcells at hnw
 refine cof 182 [.tmp 4] Tryz.func3 Tryz.ntmps3 fun c hnt hc0 => ?_
 refine wps_seq fun K1 hK1 => rgn 0 ?_
 repeat refine ⟨sd, ?_⟩
 refine hK1 _ _ (wps_seq fun K2 hK2 => rgn 0 ?_)
 repeat refine ⟨sd, ?_⟩
 refine callT_new hfr mB ?_
 refine fxl ?_
 refine evl ?_
 repeat refine ⟨sd, ?_⟩
 refine hK2 _ _ (sq fun _ k3 => rgn 0 ?_)
 repeat refine ⟨sd, ?_⟩
 refine callT_new hnw mB ?_
 refine fxl ?_
 refine evl ?_
 repeat refine ⟨sd, ?_⟩
 refine k3 (sq fun _ k4 => sq fun _ k5 => rgn 0 ?_)
 repeat refine ⟨sd, ?_⟩
 refine callT_at [] [] hal rfl rfl trivial mB mB rfl mR mR ?_
 refine evl ?_
 repeat refine ⟨sd, ?_⟩
 refine k5 (cd rfl (fun h1 => ?_) (fun h1 => ?_))
 ·refine sq fun _ k6 => ?_
  refine wps_keep [] mK ?_
  refine rgn 0 ?_
  repeat refine ⟨sd, ?_⟩
  refine callT_at [] [] hal rfl rfl trivial mB mB rfl mR mR ?_
  refine evl ?_
  repeat refine ⟨sd, ?_⟩
  refine k6 (wps_ret ?_)
  refine retL [] mA mO rfl rfl ?_
  exact mT
 ·refine wps_skip (k4 (sq fun _ k7 => ?_))
  refine wps_keep [0, 1, 7, 8] mK ?_
  refine rgn 0 ?_
  repeat refine ⟨sd, ?_⟩
  refine k7 (sq fun _ k8 => sq fun _ k9 => rgn 0 ?_)
  repeat refine ⟨sd, ?_⟩
  refine k9 (bk fun _ k10 => ?_)
  refine wps_loop (fun n e σ => ∃ (i : Nat) (ds : List Bt) (W : PgM) (m : Nat) (l : List Cel) (a : LogS) (J : Jd) (q1 q2 : Option Nat), n = bts.length - i ∧ i ≤ bts.length ∧ i ≤ 12 ∧ ds.length ≤ i ∧ (∀ b ∈ ds, b.2.2.2.length ≤ 20) ∧ Inv ds W m l a ∧ JI ds J ∧ e = [(0, .u (.fz (bts.map brow) q)), (1, .u (.s key)), (7, .p 0 0), (8, .p 13 0), (9, .h 16), (10, .u (.i .i64 (i : Int)))] ∧ σ = [.cells [.p 1 0, .u (.i .u64 (ds.length : Int)), .u (.i .u64 0)], .cells [.p 2 0, .p 3 0, .p 12 0], .cells [.p 3 0], .cells [.p 8 0, .p 7 0, .u (.i .i64 0), .u (.i .i64 200), .u (.i .u64 0), .h 4, .h 5, .h 6], .map [], .map ((enc W).map sent), .map [], .cells [.p 8 0, .u (.i .i64 0), .u (.i .u64 0), .u (.i .i64 1)], .cells [.u (.i .i64 1000), .u (.i .i64 1000), .h 9, .h 10, .h 11], .map (a.v.map sent), .map [], .row 116 1 (a.P.map prow), .cells [.p 8 0, .u (.i .i64 802), .u (.i .i64 8), .u (.i .i64 16), .u (.fz (a.sg.map segrow) q1), .u (.fz (bs a.st) q2), .u (.i .u64 (a.last : Int)), .u (.i .u64 0)], .cells [.u (.i .u64 J.last), .h 14, .h 15], .map (J.ks.map kent), .map (J.ts.map tent), .row 34 4 (ds.map brow)])
   (e0 := [(0, .u (.fz (bts.map brow) q)), (1, .u (.s key)), (7, .p 0 0), (8, .p 13 0), (9, .h 16), (10, .u (.i .i64 0))]) (σ0 := [.cells [.p 1 0, .u (.i .u64 (((0 : Nat) : Int) : Int)), .u (.i .u64 0)], .cells [.p 2 0, .p 3 0, .p 12 0], .cells [.p 3 0], .cells [.p 8 0, .p 7 0, .u (.i .i64 0), .u (.i .i64 200), .u (.i .u64 0), .h 4, .h 5, .h 6], .map [], .map ((enc W0).map sent), .map [], .cells [.p 8 0, .u (.i .i64 0), .u (.i .u64 0), .u (.i .i64 1)], .cells [.u (.i .i64 1000), .u (.i .i64 1000), .h 9, .h 10, .h 11], .map (([] : Sec).map sent), .map [], .row 116 1 [], .cells [.p 8 0, .u (.i .i64 802), .u (.i .i64 8), .u (.i .i64 16), .u (.fz [] none), .u (.fz [] (some 0)), .u (.i .u64 (((0 : Nat) : Int) : Int)), .u (.i .u64 0)], .cells [.u (.i .u64 0), .h 14, .h 15], .map [], .map [], .row 34 4 []]) ((ent_thaw 34 4 (t := 9) rfl).trans (entL hc0 [some 0, some 1, some 2, some 3, some 4, some 5, some 6, some 7, some 8, some 9, some 10, some 11, some 12, some 13, some 14, some 15, some 16] rfl rfl mB mB)) ⟨0, [], W0, 1, [], A0, ⟨0, [], []⟩, none, some 0, rfl, Nat.zero_le _, Nat.zero_le _, Nat.le_refl _, by simp, hI0.zero, JI.zero, rfl, rfl⟩ fun KL n e1 σ1 hI hKL => ?_
  obtain ⟨i, ds, W, m, l, a, J, q1, q2, rfl, hi, hi12, hdl, hds, hInv, hJI, rfl, rfl⟩ := hI
  refine sq fun _ k11 => sq fun _ k12 => rgn 0 ?_
  repeat refine ⟨sd, ?_⟩
  refine k12 (cd rfl (fun h2 => ?_) (fun h2 => ?_))
  ·have hlt : i < bts.length ∧ i < 12 := by simp at h2; omega
   have hel := brow_at hlt.1
   obtain ⟨b0, hb0⟩ : ∃ b0, bts.getD i (0, 0, 0, []) = b0 := ⟨_, rfl⟩
   have hb0m : b0 ∈ bts := by rw [← hb0]; exact getD_mem hlt.1
   have hps := hpos b0 hb0m
   rw [hb0] at hel
   obtain ⟨cl, r, s, ws0⟩ := b0
   simp only at hel hps
   have hfw := fewer_ok cl r s ws0 none
   have hfl := fewW_len ws0
   obtain ⟨ws, hws⟩ : ∃ ws, fewW ws0 = ws := ⟨_, rfl⟩
   rw [hws] at hfw hfl
   have hcase := ji_say hJI cl r s ws hps
   have hJl := hJI.last
   have hsy := say_ok J cl r s ws none (by omega)
   obtain ⟨J', hJ'⟩ : ∃ J', (sayS J cl r s ws).2 = J' := ⟨_, rfl⟩
   rw [hJ'] at hcase hsy
   have hl' := last_ok J'.last (J'.ks.map kent) (J'.ts.map tent)
   simp only [bcells, Jd.obs, jcells] at hfw hsy hl'
   have hwi := wi1 i
   have hwu := wrapu_nat (n := ds.length) (by omega)
   refine wps_skip (k11 (sq fun _ k13 => bk fun _ k14 => sq fun _ k15 => rg 1 ?_))
   refine evx hel ?_
   repeat refine ⟨sd, ?_⟩
   refine callT_at [] [] hfw rfl rfl trivial mB mB rfl mR mR ?_
   refine evx hel ?_
   repeat refine ⟨sd, ?_⟩
   refine k15 (sq fun _ k16 => sq fun _ k17 => rgn 0 ?_)
   repeat refine ⟨sd, ?_⟩
   refine callT_at [13, 14, 15] [_, _, _] hsy rfl rfl ⟨rfl, rfl, rfl, trivial⟩ mB mB rfl mR mR ?_
   refine evl ?_
   repeat refine ⟨sd, ?_⟩
   refine k17 (sq fun _ k18 => rg 0 ?_)
   refine evx hwu ?_
   repeat refine ⟨sd, ?_⟩
   refine callT_at [13, 14, 15] [_, _, _] hl' rfl rfl ⟨rfl, rfl, rfl, trivial⟩ mB mB rfl mR mR ?_
   refine evx hwu ?_
   repeat refine ⟨sd, ?_⟩
   refine k18 (cd rfl (fun h3 => ?_) (fun h3 => ?_))
   ·refine wps_exit ?_
    simp only [reduceIte, Nat.reduceEqDiff]
    refine k14 (k13 ?_)
    refine wps_keep [0, 1, 7, 8, 9, 10] mK ?_
    refine rg 0 ?_
    refine evx hwi ?_
    repeat refine ⟨sd, ?_⟩
    have h3' : J'.last = ds.length := by simpa using h3
    have hJI' : JI ds J' := by
     rcases hcase with ⟨_, h⟩ | ⟨h, _⟩
     ·exact h
     ·omega
    exact hKL _ _ (bts.length - (i + 1)) _ _ (entL hc0 [some 0, some 1, some 2, some 3, some 4, some 5, some 6, some 7, some 8, some 9, some 10, some 11, some 12, some 13, some 14, some 15, some 16] rfl rfl mB mB) ⟨i + 1, ds, W, m, l, a, J', q1, q2, rfl, by omega, by omega, by omega, hds, hInv, hJI', rfl, rfl⟩ (by omega)
   ·refine wps_skip (k16 (sq fun _ k19 => sq fun _ k20 => ?_))
    refine wps_keep [0, 1, 7, 8, 9, 10, 11] mK ?_
    refine rgn 0 ?_
    repeat refine ⟨sd, ?_⟩
    refine k20 (bk fun _ k21 => ?_)
    have h3' : ¬ J'.last = ds.length := by simpa using h3
    obtain ⟨hJl', hck, hsl, hval, hJI'⟩ : J'.last = ds.length + 1 ∧ chk ws = 0 ∧ s ≤ ds.length ∧ (∀ w ∈ ws, valR (ds.take s.toNat) w.1 = valR ds w.1) ∧ JI (ds ++ [(cl, r, s, ws)]) J' := by
     rcases hcase with ⟨h, _⟩ | h
     ·exact absurd h h3'
     ·exact h
    obtain ⟨jl, jk, jt⟩ := J'
    simp only at hJl' hl' ⊢
    rw [show (ds.length : Int) + 1 = ((ds.length + 1 : Nat) : Int) by omega] at hJl'
    subst hJl'
    refine wps_loop (fun k2 e σ => ∃ (k : Nat), k2 = ws.length - k ∧ k ≤ ws.length ∧ e = [(0, .u (.fz (bts.map brow) q)), (1, .u (.s key)), (7, .p 0 0), (8, .p 13 0), (9, .h 16), (10, .u (.i .i64 (i : Int))), (11, .p 17 0), (12, .u (.i .i64 (k : Int)))] ∧ σ = [.cells [.p 1 0, .u (.i .u64 (ds.length : Int)), .u (.i .u64 0)], .cells [.p 2 0, .p 3 0, .p 12 0], .cells [.p 3 0], .cells [.p 8 0, .p 7 0, .u (.i .i64 0), .u (.i .i64 200), .u (.i .u64 0), .h 4, .h 5, .h 6], .map [], .map ((enc W).map sent), .map [], .cells [.p 8 0, .u (.i .i64 0), .u (.i .u64 0), .u (.i .i64 1)], .cells [.u (.i .i64 1000), .u (.i .i64 1000), .h 9, .h 10, .h 11], .map (a.v.map sent), .map [], .row 116 1 (a.P.map prow), .cells [.p 8 0, .u (.i .i64 802), .u (.i .i64 8), .u (.i .i64 16), .u (.fz (a.sg.map segrow) q1), .u (.fz (bs a.st) q2), .u (.i .u64 (a.last : Int)), .u (.i .u64 0)], .cells [.u (.i .u64 ((ds.length + 1 : Nat) : Int)), .h 14, .h 15], .map (jk.map kent), .map (jt.map tent), .row 34 4 (ds.map brow), .cells [.u (.i .u64 cl), .u (.i .u64 r), .u (.i .u64 s), .u (.fz (ws.map wrow) none)]])
     (e0 := [(0, .u (.fz (bts.map brow) q)), (1, .u (.s key)), (7, .p 0 0), (8, .p 13 0), (9, .h 16), (10, .u (.i .i64 (i : Int))), (11, .p 17 0), (12, .u (.i .i64 0))]) (σ0 := [.cells [.p 1 0, .u (.i .u64 (ds.length : Int)), .u (.i .u64 0)], .cells [.p 2 0, .p 3 0, .p 12 0], .cells [.p 3 0], .cells [.p 8 0, .p 7 0, .u (.i .i64 0), .u (.i .i64 200), .u (.i .u64 0), .h 4, .h 5, .h 6], .map [], .map ((enc W).map sent), .map [], .cells [.p 8 0, .u (.i .i64 0), .u (.i .u64 0), .u (.i .i64 1)], .cells [.u (.i .i64 1000), .u (.i .i64 1000), .h 9, .h 10, .h 11], .map (a.v.map sent), .map [], .row 116 1 (a.P.map prow), .cells [.p 8 0, .u (.i .i64 802), .u (.i .i64 8), .u (.i .i64 16), .u (.fz (a.sg.map segrow) q1), .u (.fz (bs a.st) q2), .u (.i .u64 (a.last : Int)), .u (.i .u64 0)], .cells [.u (.i .u64 ((ds.length + 1 : Nat) : Int)), .h 14, .h 15], .map (jk.map kent), .map (jt.map tent), .row 34 4 (ds.map brow), .cells [.u (.i .u64 cl), .u (.i .u64 r), .u (.i .u64 s), .u (.fz (ws.map wrow) none)]]) (entL hc0 [some 0, some 1, some 2, some 3, some 4, some 5, some 6, some 7, some 8, some 9, some 10, some 11, some 12, some 13, some 14, some 15, some 16, some 17] rfl rfl mB mB) ⟨0, rfl, Nat.zero_le _, rfl, rfl⟩ fun KM k2 e2 σ2 hI2 hKM => ?_
    obtain ⟨k, rfl, hk, rfl, rfl⟩ := hI2
    refine sq fun _ k22 => sq fun _ k23 => rgn 0 ?_
    repeat refine ⟨sd, ?_⟩
    refine k23 (cd rfl (fun h4 => ?_) (fun h4 => ?_))
    ·have hlt2 : k < ws.length := by simp at h4; omega
     have hel2 := wrow_at hlt2
     have hwk := (chk_all hck k hlt2).1
     have hw2 := wi1 k
     obtain ⟨w0, hw0⟩ : ∃ w0, wat ws k = w0 := ⟨_, rfl⟩
     have hw0m : w0 ∈ ws := by rw [← hw0, wat]; exact getD_mem hlt2
     rw [hw0] at hel2 hwk
     have hg1 := dget_ok a q1 q2 (hI0.fact hInv) w0.1 s.toNat hwk.k1 (by omega)
     have hg2 := dget_ok a q1 q2 (hI0.fact hInv) w0.1 ds.length hwk.k1 (Nat.le_refl _)
     rw [hval w0 hw0m, show ((s.toNat : Nat) : Int) = s by omega] at hg1
     rw [List.take_length] at hg2
     have hvl := vlast_ok W (.fz (a.sg.map segrow) q1) (.fz (bs a.st) q2) a.last 0 a.v [] a.P ds.length
     unfold vwL vwm at hg1 hg2
     unfold vwm at hvl
     simp only [List.map_nil, cast0] at hg1 hg2 hvl
     refine wps_skip (k22 (sq fun _ k24 => bk fun _ k25 => sq fun _ k26 => dr 0 [0, 0, 2, 0, 14, 30, 62, 0, 128, 511, 1023, 2047, 2047, 4095, 16383] mixed ?_))
     refine evx hel2 ?_
     repeat refine ⟨sd, ?_⟩
     refine callE_at [0, 1, 2, 3, 4, 5, 6, 7, 8, 9, 10, 11, 12] [_, _, _, _, _, _, _, _, _, _, _, _, _] hg1 rfl rfl ⟨rfl, rfl, rfl, rfl, rfl, rfl, rfl, rfl, rfl, rfl, rfl, rfl, rfl, trivial⟩ mB mB rfl mR mR ?_
     refine evx hel2 ?_
     repeat refine ⟨sd, ?_⟩
     refine k26 (sq fun _ k27 => ?_)
     refine wps_keep [0, 1, 7, 8, 9, 10, 11, 12, 13, 14] mK ?_
     refine dr 0 [0, 0, 2, 0, 14, 30, 62, 0, 128, 511, 1023, 2047, 2047, 4095, 16383] mixed ?_
     refine evx hel2 ?_
     repeat refine ⟨sd, ?_⟩
     refine callE_at [0, 1, 2, 3, 4, 5, 6, 7, 8, 9, 10, 11, 12] [_, _, _, _, _, _, _, _, _, _, _, _, _] hvl rfl rfl ⟨rfl, rfl, rfl, rfl, rfl, rfl, rfl, rfl, rfl, rfl, rfl, rfl, rfl, trivial⟩ mB mB rfl mR mR ?_
     refine evx hel2 ?_
     repeat refine ⟨sd, ?_⟩
     refine callE_at [0, 1, 2, 3, 4, 5, 6, 7, 8, 9, 10, 11, 12] [_, _, _, _, _, _, _, _, _, _, _, _, _] hg2 rfl rfl ⟨rfl, rfl, rfl, rfl, rfl, rfl, rfl, rfl, rfl, rfl, rfl, rfl, rfl, trivial⟩ mB mB rfl mR mR ?_
     refine evx hel2 ?_
     repeat refine ⟨sd, ?_⟩
     refine k27 (sq fun _ k28 => ?_)
     refine wps_keep [0, 1, 7, 8, 9, 10, 11, 12, 13, 14, 15, 16] mK ?_
     refine rgn 0 ?_
     repeat refine ⟨sd, ?_⟩
     refine k28 (cd rfl (fun h5 => ?_) (fun h5 => ?_))
     ·exact absurd h5 (by simp)
     ·refine wps_skip (k25 (k24 ?_))
      refine wps_keep [0, 1, 7, 8, 9, 10, 11, 12] mK ?_
      refine rg 0 ?_
      refine evx hw2 ?_
      repeat refine ⟨sd, ?_⟩
      exact hKM _ _ (ws.length - (k + 1)) _ _ (entL hc0 [some 0, some 1, some 2, some 3, some 4, some 5, some 6, some 7, some 8, some 9, some 10, some 11, some 12, some 13, some 14, some 15, some 16, some 17] rfl rfl mB mB) ⟨k + 1, rfl, by omega, rfl, rfl⟩ (by omega)
    ·have hr1 := brow_ok1 ds
     have hr2 := brow_ok2 ds
     have hdl' : (ds.map brow).length ≤ 100 := by rw [List.length_map]; omega
     obtain ⟨W', m', l', b, hL, hP, hInv'⟩ := hI0.step cl r s ws hInv (by omega) hck
     have hcm := vcommit_ok W W' m m' ws none q1 q2 a b 0 ds.length (ds.length + 1) [] hck rfl (by omega) (hI0.fact hInv).cnt (hI0.fact hInv).m64 hL hP (comL_size hck (by omega))
     unfold vwL vwm vwN at hcm
     simp only [List.map_nil, cast0, List.cons_append, List.nil_append] at hcm
     refine wps_exit ?_
     simp only [reduceIte, Nat.reduceEqDiff]
     refine k21 (k19 (sq fun _ k29 => rgn 1 ?_))
     repeat refine ⟨sd, ?_⟩
     refine k29 (sq fun _ k30 => dr 1 [0, 0, 2, 0, 8, 31, 63] mixed ?_)
     refine evl ?_
     repeat refine ⟨sd, ?_⟩
     refine callE_at [13, 14, 15] [_, _, _] hl' rfl rfl ⟨rfl, rfl, rfl, trivial⟩ mB mB rfl mR mR ?_
     refine evl ?_
     repeat refine ⟨sd, ?_⟩
     refine callE_N [0, 1, 2, 3, 4, 5, 6, 7, 8, 9, 10, 11, 12] [_, _, _, _, _, _, _, _, _, _, _, _, _] [19] hcm rfl rfl ⟨rfl, rfl, rfl, rfl, rfl, rfl, rfl, rfl, rfl, rfl, rfl, rfl, rfl, rfl, trivial⟩ mB mB rfl mR mR ?_
     refine evl ?_
     repeat refine ⟨sd, ?_⟩
     refine k30 (cd rfl (fun h6 => ?_) (fun h6 => ?_))
     ·exact absurd h6 (by simp)
     ·refine wps_skip (k14 (k13 (rg 0 ?_)))
      refine evx hwi ?_
      repeat refine ⟨sd, ?_⟩
      have hlen : (ds ++ [(cl, r, s, ws)]).length = ds.length + 1 := by simp
      have hds' : ∀ x ∈ ds ++ [(cl, r, s, ws)], x.2.2.2.length ≤ 20 := by
       intro x hx
       rcases List.mem_append.1 hx with h | h
       ·exact hds x h
       ·rw [List.mem_singleton.1 h]
        show ws.length ≤ 20
        omega
      exact hKL _ _ (bts.length - (i + 1)) _ [.cells [.p 1 0, .u (.i .u64 ((ds ++ [(cl, r, s, ws)]).length : Int)), .u (.i .u64 0)], .cells [.p 2 0, .p 3 0, .p 12 0], .cells [.p 3 0], .cells [.p 8 0, .p 7 0, .u (.i .i64 0), .u (.i .i64 200), .u (.i .u64 0), .h 4, .h 5, .h 6], .map [], .map ((enc W').map sent), .map [], .cells [.p 8 0, .u (.i .i64 0), .u (.i .u64 0), .u (.i .i64 1)], .cells [.u (.i .i64 1000), .u (.i .i64 1000), .h 9, .h 10, .h 11], .map (b.v.map sent), .map [], .row 116 1 (b.P.map prow), .cells [.p 8 0, .u (.i .i64 802), .u (.i .i64 8), .u (.i .i64 16), .u (.fz (b.sg.map segrow) none), .u (.fz (bs b.st) none), .u (.i .u64 (b.last : Int)), .u (.i .u64 0)], .cells [.u (.i .u64 ((ds.length + 1 : Nat) : Int)), .h 14, .h 15], .map (jk.map kent), .map (jt.map tent), .row 34 4 ((ds ++ [(cl, r, s, ws)]).map brow)] (entL hc0 [some 0, some 1, some 2, some 3, some 4, some 5, some 6, some 7, some 8, some 9, some 10, some 19, some 12, some 13, some 14, some 15, some 18] rfl rfl mB (by rw [hlen]; simp only [retSV, SV.mv, mvs, subL, List.map_nil, List.map_cons, SObj.mv, posOf, back, List.length_cons, List.length_nil, List.getElem?_cons_zero, List.getElem?_cons_succ, Option.map_some, Nat.reduceAdd, Nat.reduceLT, Nat.zero_add, Nat.lt_add_one, List.getD_cons_zero, List.getD_cons_succ, reduceIte, Nat.reduceEqDiff, Env.get, Env.put, and_true, true_and, implies_true, List.map_append, List.map_cons, List.map_nil, brow])) ⟨i + 1, ds ++ [(cl, r, s, ws)], W', m', l', b, ⟨_, jk, jt⟩, none, none, rfl, by omega, by omega, by omega, hds', hInv', hJI', rfl, rfl⟩ (by omega)
  ·have hkey : key.length ≤ 64 := by simp at h1; omega
   have hF := hI0.fact hInv
   have hdl2 : ds.length ≤ 12 := by omega
   refine wps_exit ?_
   simp only [reduceIte, Nat.reduceEqDiff]
   refine k10 (k8 (sq fun _ k31 => sq fun _ k32 => ?_))
   refine wps_ent (e' := [(1, .u (.s key)), (7, .p 0 0), (9, .u (.fz (ds.map brow) none))]) (entF 16 rfl mB rfl) ?_
   refine rgn 0 ?_
   repeat refine ⟨sd, ?_⟩
   refine k32 (bk fun _ k33 => ?_)
   refine wps_loop (fun n e σ => ∃ (t : Nat), n = ds.length + 1 - t ∧ t ≤ ds.length + 1 ∧ e = [(1, .u (.s key)), (7, .p 0 0), (9, .u (.fz (ds.map brow) none)), (17, .u (.i .i64 (t : Int)))] ∧ σ = [.cells [.p 1 0, .u (.i .u64 (ds.length : Int)), .u (.i .u64 0)], .cells [.p 2 0, .p 3 0, .p 12 0], .cells [.p 3 0], .cells [.p 8 0, .p 7 0, .u (.i .i64 0), .u (.i .i64 200), .u (.i .u64 0), .h 4, .h 5, .h 6], .map [], .map ((enc W).map sent), .map [], .cells [.p 8 0, .u (.i .i64 0), .u (.i .u64 0), .u (.i .i64 1)], .cells [.u (.i .i64 1000), .u (.i .i64 1000), .h 9, .h 10, .h 11], .map (a.v.map sent), .map [], .row 116 1 (a.P.map prow), .cells [.p 8 0, .u (.i .i64 802), .u (.i .i64 8), .u (.i .i64 16), .u (.fz (a.sg.map segrow) q1), .u (.fz (bs a.st) q2), .u (.i .u64 (a.last : Int)), .u (.i .u64 0)]])
    (e0 := [(1, .u (.s key)), (7, .p 0 0), (9, .u (.fz (ds.map brow) none)), (17, .u (.i .i64 0))]) (σ0 := [.cells [.p 1 0, .u (.i .u64 (ds.length : Int)), .u (.i .u64 0)], .cells [.p 2 0, .p 3 0, .p 12 0], .cells [.p 3 0], .cells [.p 8 0, .p 7 0, .u (.i .i64 0), .u (.i .i64 200), .u (.i .u64 0), .h 4, .h 5, .h 6], .map [], .map ((enc W).map sent), .map [], .cells [.p 8 0, .u (.i .i64 0), .u (.i .u64 0), .u (.i .i64 1)], .cells [.u (.i .i64 1000), .u (.i .i64 1000), .h 9, .h 10, .h 11], .map (a.v.map sent), .map [], .row 116 1 (a.P.map prow), .cells [.p 8 0, .u (.i .i64 802), .u (.i .i64 8), .u (.i .i64 16), .u (.fz (a.sg.map segrow) q1), .u (.fz (bs a.st) q2), .u (.i .u64 (a.last : Int)), .u (.i .u64 0)]]) (entL hc0 [some 0, some 1, some 2, some 3, some 4, some 5, some 6, some 7, some 8, some 9, some 10, some 11, some 12] rfl rfl mB mB) ⟨0, rfl, Nat.zero_le _, rfl, rfl⟩ fun KN n3 e3 σ3 hI3 hKN => ?_
   obtain ⟨t, rfl, ht, rfl, rfl⟩ := hI3
   refine sq fun _ k34 => sq fun _ k35 => rgn 0 ?_
   repeat refine ⟨sd, ?_⟩
   refine k35 (cd rfl (fun h7 => ?_) (fun h7 => ?_))
   ·have htl : t ≤ ds.length := by simp at h7; omega
    have hwt := wrapu_nat (n := t) (by omega)
    have hg := dget_ok a q1 q2 hF key t hkey htl
    have hrv := refvalue_ok (ds.take t) key none (by simp; omega) (fun b hb => hds b (List.mem_of_mem_take hb))
    have hrs := refscan_ok (ds.take t) none (by simp; omega) (fun b hb => hds b (List.mem_of_mem_take hb))
    obtain ⟨n0, fst, hA, hS⟩ := hF.scan t htl
    have hsc := vscan_ok W l (.fz (a.sg.map segrow) q1) (.fz (bs a.st) q2) a.last 0 a.v [] a.P ds.length t n0 fst _ hF.rd hF.len (by omega) htl hA hS (scanR_len (ds.take t) (by simp; omega) (fun b hb => hds b (List.mem_of_mem_take hb)))
    have hsm := same_ok (scanR (ds.take t)) none none (by have := scanR_len (ds.take t) (by simp; omega) (fun b hb => hds b (List.mem_of_mem_take hb)); omega)
    have hside : 0 ≤ (t : Int) ∧ (t : Int) ≤ (ds.length : Int) ∧ ∀ y ∈ ds.map brow, y.length = 4 := ⟨by omega, by omega, brow_ok1 ds⟩
    rw [List.map_take] at hrv hrs
    unfold vwL vwm at hg
    unfold vwm at hsc
    simp only [List.map_nil, cast0] at hg hsc
    obtain ⟨⟨v1, v2⟩, hV⟩ : ∃ V, valR (ds.take t) key = V := ⟨_, rfl⟩
    rw [hV] at hg hrv
    simp only at hg hrv
    have hne : (v2 == ((if v2 then (0 : Int) else 161) == 0)) = true := by cases v2 <;> rfl
    have hwn := wi1 t
    refine wps_skip (k34 (sq fun _ k36 => bk fun _ k37 => sq fun _ k38 => rg 0 ?_))
    refine evx hwt ?_
    repeat refine ⟨sd, ?_⟩
    refine callT_at [0, 1, 2, 3, 4, 5, 6, 7, 8, 9, 10, 11, 12] [_, _, _, _, _, _, _, _, _, _, _, _, _] hg rfl rfl ⟨rfl, rfl, rfl, rfl, rfl, rfl, rfl, rfl, rfl, rfl, rfl, rfl, rfl, trivial⟩ mB mB rfl mR mR ?_
    refine evx hwt ?_
    repeat refine ⟨sd, ?_⟩
    refine k38 (sq fun _ k39 => rgn 0 ?_)
    repeat refine ⟨sd, ?_⟩
    refine callT_at [] [] hrv rfl rfl trivial mB mB rfl mR mR ?_
    refine evl ?_
    repeat refine ⟨sd, ?_⟩
    refine k39 (sq fun _ k40 => ?_)
    refine wps_keep [1, 7, 9, 17, 18, 19, 20, 21] mK ?_
    refine rg 0 ?_
    refine evx hwt ?_
    repeat refine ⟨sd, ?_⟩
    refine callT_at [] [] hall rfl rfl trivial mB mB rfl mR mR ?_
    refine evx hwt ?_
    repeat refine ⟨sd, ?_⟩
    refine callT_at [0, 1, 2, 3, 4, 5, 6, 7, 8, 9, 10, 11, 12] [_, _, _, _, _, _, _, _, _, _, _, _, _] hsc rfl rfl ⟨rfl, rfl, rfl, rfl, rfl, rfl, rfl, rfl, rfl, rfl, rfl, rfl, rfl, trivial⟩ mB mB rfl mR mR ?_
    refine evx hwt ?_
    repeat refine ⟨sd, ?_⟩
    refine k40 (sq fun _ k41 => dr 0 [0, 0, 2, 7, 15, 31, 31, 127, 255, 511, 1023, 2047, 4095, 8191, 16383, 16383, 16383, 114687, 16383, 507903, 1048575, 2097151, 4194303] mixed ?_)
    refine evx hne ?_
    repeat refine ⟨sd, ?_⟩
    refine callG_at [] [] (fun _ => trivial) en16 hall rfl rfl trivial mB mB rfl mR mR ?_
    refine evx hne ?_
    repeat refine ⟨sd, ?_⟩
    refine callG_at [] [] (fun _ => trivial) en18 hrs rfl rfl trivial mB mB rfl mR mR ?_
    refine evx hne ?_
    repeat refine ⟨sd, ?_⟩
    refine callG_at [] [] (fun _ => trivial) en17 hsm rfl rfl trivial mB mB rfl mR mR ?_
    refine evx hne ?_
    repeat refine ⟨sd, ?_⟩
    refine k41 (cd rfl (fun h8 => ?_) (fun h8 => ?_))
    ·exact absurd h8 (by simp)
    ·refine wps_skip (k37 (k36 ?_))
     refine wps_keep [1, 7, 9, 17] mK ?_
     refine rg 0 ?_
     refine evx hwn ?_
     repeat refine ⟨sd, ?_⟩
     exact hKN _ _ (ds.length + 1 - (t + 1)) _ _ (entL hc0 [some 0, some 1, some 2, some 3, some 4, some 5, some 6, some 7, some 8, some 9, some 10, some 11, some 12] rfl rfl mB mB) ⟨t + 1, rfl, by omega, rfl, rfl⟩ (by omega)
   ·have hvl := vlast_ok W (.fz (a.sg.map segrow) q1) (.fz (bs a.st) q2) a.last 0 a.v [] a.P ds.length
    have hwd := wrapu_nat (n := ds.length) (by omega)
    unfold vwm at hvl
    simp only [List.map_nil, cast0] at hvl
    refine wps_exit ?_
    simp only [reduceIte, Nat.reduceEqDiff]
    refine k33 (k31 (sq fun _ k42 => rg 0 ?_))
    refine evx hwd ?_
    repeat refine ⟨sd, ?_⟩
    refine callT_at [0, 1, 2, 3, 4, 5, 6, 7, 8, 9, 10, 11, 12] [_, _, _, _, _, _, _, _, _, _, _, _, _] hvl rfl rfl ⟨rfl, rfl, rfl, rfl, rfl, rfl, rfl, rfl, rfl, rfl, rfl, rfl, rfl, trivial⟩ mB mB rfl mR mR ?_
    refine evx hwd ?_
    repeat refine ⟨sd, ?_⟩
    refine k42 (wps_ret ?_)
    refine retL [] mA mO rfl rfl ?_
    exact mT
end Go.Proofs.YtefipnajpabfgaaGreatDoor
