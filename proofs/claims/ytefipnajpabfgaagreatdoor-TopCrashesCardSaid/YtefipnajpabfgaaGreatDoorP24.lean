/- Part 24 of the proof: what functions of the program do, and plain facts on what they compute. -/
import Derived.Test.YtefipnajpabfgaaGreatDoorP23
import Derived.Test.YtefipnajpabfgaaGreatDoorL6
import Derived.Test.YtefipnajpabfgaaGreatDoorRows
import Derived.WalkKit
import Derived.ProofKit
import Derived.OpenShut
import Derived.ShutString
import Derived.ChangeOld
import Derived.Below
import Derived.LaidMore
import Derived.Stop.Joined
set_option linter.all false
set_option maxRecDepth 40000
set_option maxHeartbeats 16000000
set_option linter.unusedSimpArgs false
set_option linter.unusedVariables false
namespace Go.Proofs.YtefipnajpabfgaaGreatDoor
open Go.Nm

/-! ### a log that was begun fresh: its segments' streams -/
def strJ : Nat → List Bod → Nat → List UInt8
 | _, [], _ => []
 | f, ds :: _, 0 => strS f ds
 | f, ds :: SG, j + 1 => strJ (f + ds.length) SG j
/-- the streams of the first u bodies -/
def strU : Nat → Nat → List Bod → Nat → List UInt8
 | _, _, [], _ => []
 | f, u, ds :: _, 0 => if u = 0 then [] else strS f (ds.take u)
 | f, u, ds :: SG, j + 1 => strU (f + ds.length) (u - ds.length) SG j
def segsL : Nat → Nat → List Bod → List Seg
 | _, _, [] => []
 | k, f, ds :: SG => (k, f, ds.length) :: segsL (k + 1) (f + ds.length) SG
theorem segsL_snoc (ds : Bod) : ∀ (SG : List Bod) (k f : Nat), segsL k f (SG ++ [ds]) = segsL k f SG ++ [(k + SG.length, f + SG.flatten.length, ds.length)]
 | [], k, f => by simp [segsL]
 | d :: SG, k, f => by
  rw [List.cons_append, segsL, segsL, segsL_snoc ds SG, List.cons_append, List.flatten_cons, List.length_append, List.length_cons, show k + 1 + SG.length = k + (SG.length + 1) by omega, Nat.add_assoc f]
theorem segsL_len : ∀ (SG : List Bod) (k f : Nat), (segsL k f SG).length = SG.length
 | [], _, _ => rfl
 | d :: SG, k, f => by rw [segsL, List.length_cons, segsL_len SG, List.length_cons]
theorem segsL_used (j : Nat) : ∀ (SG : List Bod) (k f : Nat), usedB j (segsL k f SG) = true ↔ k ≤ j ∧ j < k + SG.length
 | [], k, f => by
  show false = true ↔ _
  simp <;> omega
 | d :: SG, k, f => by
  show ((k == j) || usedB j (segsL (k + 1) (f + d.length) SG)) = true ↔ _
  rw [Bool.or_eq_true, segsL_used j SG, beq_iff_eq, List.length_cons]
  omega
theorem strJ_snoc (ds : Bod) : ∀ (SG : List Bod) (f j : Nat), strJ f (SG ++ [ds]) j = if j = SG.length then strS (f + SG.flatten.length) ds else strJ f SG j
 | [], f, 0 => by simp [strJ]
 | [], f, j + 1 => by simp [strJ]
 | d :: SG, f, 0 => by simp [strJ]
 | d :: SG, f, j + 1 => by
  rw [List.cons_append, strJ, strJ_snoc ds SG, strJ, List.flatten_cons, List.length_append, List.length_cons, Nat.add_assoc f]
  by_cases h : j = SG.length
  ·rw [if_pos h, if_pos (by omega)]
  ·rw [if_neg h, if_neg (by omega)]
theorem strJ_out : ∀ (SG : List Bod) (f j : Nat), SG.length ≤ j → strJ f SG j = []
 | [], _, _, _ => by rw [strJ]
 | d :: SG, f, 0, h => by simp at h
 | d :: SG, f, j + 1, h => by
  rw [List.length_cons] at h
  rw [strJ, strJ_out SG _ j (by omega)]
theorem strU_snoc0 (ds : Bod) : ∀ (SG : List Bod) (f u j : Nat), u ≤ SG.flatten.length → strU f u (SG ++ [ds]) j = strU f u SG j
 | [], f, u, 0, h => by
  have : u = 0 := by simpa using h
  subst this
  simp [strU]
 | [], f, u, j + 1, h => by simp [strU]
 | d :: SG, f, u, 0, h => by simp [strU]
 | d :: SG, f, u, j + 1, h => by
  rw [List.flatten_cons, List.length_append] at h
  rw [List.cons_append, strU, strU, strU_snoc0 ds SG _ _ j (by omega)]
theorem strU_snoc1 (ds : Bod) (b : List UInt8) : ∀ (SG : List Bod) (f u j : Nat), u ≤ (SG ++ [ds]).flatten.length → strU f u (SG ++ [ds ++ [b]]) j = strU f u (SG ++ [ds]) j
 | [], f, u, 0, h => by
  have : u ≤ ds.length := by simpa using h
  simp only [List.nil_append, strU]
  rw [List.take_append_of_le_length this]
 | [], f, u, j + 1, h => by simp [strU]
 | d :: SG, f, u, 0, h => by simp [strU]
 | d :: SG, f, u, j + 1, h => by
  rw [List.cons_append, List.flatten_cons, List.length_append] at h
  rw [List.cons_append, strU, List.cons_append, strU, strU_snoc1 ds b SG _ _ j (by omega)]
theorem strS_take (f u : Nat) (ds : Bod) : strS f (ds.take u) <+: strS f ds :=
 ⟨recBytes (f + (ds.take u).length) (ds.drop u), by rw [strS, strS, List.append_assoc, ← recBytes_split, List.take_append_drop]⟩
theorem strU_pre : ∀ (SG : List Bod) (f u j : Nat), strU f u SG j <+: strJ f SG j
 | [], f, u, j => by rw [strU]; exact List.nil_prefix
 | d :: SG, f, u, 0 => by
  rw [strU, strJ]
  split
  ·exact List.nil_prefix
  ·exact strS_take f u d
 | d :: SG, f, u, j + 1 => by rw [strU, strJ]; exact strU_pre SG _ _ j
theorem strU_all : ∀ (SG : List Bod) (f u j : Nat), (∀ ds ∈ SG, ds ≠ []) → SG.flatten.length ≤ u → strU f u SG j = strJ f SG j
 | [], f, u, j, _, _ => by rw [strU, strJ]
 | d :: SG, f, u, 0, h, hu => by
  have hd := List.length_pos_iff.2 (h d List.mem_cons_self)
  rw [List.flatten_cons, List.length_append] at hu
  rw [strU, strJ, if_neg (by omega), List.take_of_length_le (by omega)]
 | d :: SG, f, u, j + 1, h, hu => by
  rw [List.flatten_cons, List.length_append] at hu
  rw [strU, strJ, strU_all SG _ _ j (fun x hx => h x (List.mem_cons_of_mem _ hx)) (by omega)]

/-- the writes of one append -/
theorem sec_step {v : Sec} {j0 M : Nat} {S S' : List UInt8} (hS : S <+: S') (hl : S'.length ≤ 8192) (hM : M = (S'.length + 511) / 512) (hv : ∀ k, k < 16 → sgetD (802 + 16 * j0 + k) v = chunk S k) :
  (∀ j k, k < 16 → sgetD (802 + 16 * j + k) (applyW v (segW j0 S' (S.length / 512) (M - S.length / 512))) = if j = j0 then chunk S' k else sgetD (802 + 16 * j + k) v) ∧ ChainW v (segW j0 S' (S.length / 512) (M - S.length / 512)) := by
 obtain ⟨U, rfl⟩ := hS
 rw [List.length_append] at hM hl
 refine ⟨fun j k hk => ?_, segW_chain _ _ _ _ _ fun j h1 h2 => ?_⟩
 ·rw [segW_get]
  by_cases hj : j = j0
  ·subst hj
   rw [if_pos rfl]
   split
   ·congr 1; omega
   ·rw [hv k hk]
    have : k < S.length / 512 ∨ M ≤ k := by omega
    rcases this with h | h
    ·exact (chunk_same h).symm
    ·rw [chunk_out (by omega), chunk_out (by rw [List.length_append]; omega)]
  ·rw [if_neg hj, if_neg (by omega)]
 ·rw [hv j (by omega)]
  exact chunk_mono (List.prefix_append _ _) j
theorem rec_le (n : Nat) (b : List UInt8) (hn : n < 1000000) (hb : b.length ≤ 40000) : (recS n b).length ≤ b.length + 28 := by
 have hf := field_len n b (by omega) hb
 have hs := seal_len (fieldS n b)
 rw [show recS n b = be4 (sealS (fieldS n b)).length ++ sealS (fieldS n b) from rfl, List.length_append, be4_len]
 omega

/-- the log's state, and what of it was synced -/
structure LogI (SG : List Bod) (u : Nat) (a : LogS) (g : Sec) : Prop where
 ne : ∀ ds ∈ SG, ds ≠ []
 sg : a.sg = segsL 0 1 SG
 st : a.st = strJ 1 SG (SG.length - 1)
 last : a.last = SG.flatten.length
 bod : ∀ b ∈ SG.flatten, b.length ≤ 4000
 two : SG = [] ∨ ∃ S' ds, SG = S' ++ [ds] ∧ 2 * S'.length + ds.length ≤ SG.flatten.length
 le : SG.flatten.length ≤ 12
 ul : u ≤ SG.flatten.length
 len : ∀ j, (strJ 1 SG j).length ≤ 8192
 vs : ∀ j k, k < 16 → sgetD (802 + 16 * j + k) a.v = chunk (strJ 1 SG j) k
 gs : ∀ j k, k < 16 → sgetD (802 + 16 * j + k) g = chunk (strU 1 u SG j) k
 p : ∃ P, a.P = P.map wrt ∧ ChainW g P ∧ (∀ q, sgetD q (applyW g P) = sgetD q a.v) ∧ (∀ w ∈ P, (802 ≤ w.1 ∧ w.1 < 930) ∧ w.2.length ≤ 512) ∧ P.length ≤ 16 * SG.flatten.length
 lv : LogSec a.v
 lg : LogSec g
theorem chunk_nil (k : Nat) : chunk [] k = [] := by simp [chunk]
theorem LogI.zero : LogI [] 0 A0 [] :=
 ⟨by simp, rfl, rfl, rfl, by simp, .inl rfl, by simp, by simp, fun j => by simp [strJ], fun j k _ => by rw [strJ, chunk_nil]; rfl, fun j k _ => by rw [strU, chunk_nil]; rfl, ⟨[], rfl, trivial, fun q => rfl, by simp, by simp⟩, ⟨SecOK.nil, by simp [A0]⟩, ⟨SecOK.nil, by simp⟩⟩
theorem LogI.six {SG : List Bod} {u : Nat} {a : LogS} {g : Sec} (h : LogI SG u a g) : SG.length ≤ 6 := by
 have hl := h.le
 rcases h.two with h2 | ⟨S', ds, h1, h2⟩
 ·rw [h2]; simp
 ·have hd := List.length_pos_iff.2 (h.ne ds (by rw [h1]; simp))
  rw [h1, List.length_append, List.length_singleton]
  omega
theorem LogI.next {SG SG' : List Bod} {u : Nat} {a : LogS} {g : Sec} (h : LogI SG u a g) {body S S' : List UInt8} {j0 M : Nat} (hb : body.length ≤ 4000) (ht : SG.flatten.length < 12) (hj : j0 < 8) (hS : S <+: S') (hl : S'.length ≤ 8192) (hM : M = (S'.length + 511) / 512)
  (hold : strJ 1 SG j0 = S) (hnew : ∀ j, strJ 1 SG' j = if j = j0 then S' else strJ 1 SG j) (hU : ∀ j, strU 1 u SG' j = strU 1 u SG j) (hfl : SG'.flatten = SG.flatten ++ [body]) (hne : ∀ ds ∈ SG', ds ≠ []) (htwo : ∃ S' ds, SG' = S' ++ [ds] ∧ 2 * S'.length + ds.length ≤ SG'.flatten.length) (hjl : SG'.length - 1 = j0) :
  LogI SG' u ⟨segsL 0 1 SG', S', SG.flatten.length + 1, applyW a.v (segW j0 S' (S.length / 512) (M - S.length / 512)), a.P ++ (segW j0 S' (S.length / 512) (M - S.length / 512)).map wrt⟩ g := by
 obtain ⟨P, hP, pc, pa, pm, pl⟩ := h.p
 obtain ⟨s1, s2⟩ := sec_step hS hl hM (fun k hk => by rw [h.vs j0 k hk, hold])
 have hfl2 : SG'.flatten.length = SG.flatten.length + 1 := by rw [hfl, List.length_append, List.length_singleton]
 have hle := h.le
 have hul := h.ul
 have hSl := hS.length_le
 refine ⟨hne, rfl, by rw [hjl, hnew, if_pos rfl], hfl2.symm, fun b hbm => ?_, .inr htwo, by omega, by omega, fun j => ?_, fun j k hk => ?_, fun j k hk => by rw [hU, h.gs j k hk], ⟨P ++ segW j0 S' (S.length / 512) (M - S.length / 512), by rw [List.map_append, ← hP], ?_, fun q => ?_, fun w hw => ?_, ?_⟩, ?_, h.lg⟩
 ·rw [hfl] at hbm
  rcases List.mem_append.1 hbm with hm | hm
  ·exact h.bod b hm
  ·rw [List.mem_singleton.1 hm]; exact hb
 ·rw [hnew]
  split
  ·exact hl
  ·exact h.len j
 ·show sgetD _ (applyW a.v _) = _
  rw [s1 j k hk, hnew]
  split
  ·rfl
  ·exact h.vs j k hk
 ·exact chain_app pc (chain_congr (fun q => (pa q).symm) s2)
 ·rw [applyW_app]
  exact applyW_congr pa q
 ·rcases List.mem_append.1 hw with hm | hm
  ·exact pm w hm
  ·exact segW_ok hj _ _ _ (by omega) w hm
 ·rw [List.length_append, segW_length, hfl2]
  omega
 ·exact LogSec.apply _ h.lv fun w hw => segW_ok hj _ _ _ (by omega) w hw
theorem LogI.step {SG : List Bod} {u : Nat} {a : LogS} {g : Sec} (h : LogI SG u a g) {body : List UInt8} (hb : body.length ≤ 4000) (ht : SG.flatten.length < 12) : ∃ SG' b, LApp body a b ∧ LogI SG' u b g ∧ SG'.flatten = SG.flatten ++ [body] := by
 have h6 := h.six
 have hne := h.ne
 have hsg := h.sg
 have hst := h.st
 have hlast := h.last
 have hbod := h.bod
 have hul := h.ul
 have hlen := h.len
 have hPl : a.P.length ≤ 192 := by
  obtain ⟨P, hP, _, _, _, pl⟩ := h.p
  rw [hP, List.length_map]; omega
 have r1 := rec_le (SG.flatten.length + 1) titleS (by omega) (by decide)
 have r2 := rec_le (SG.flatten.length + 1) body (by omega) (by omega)
 rw [show titleS.length = 7 from rfl] at r1
 have hlv := h.lv
 by_cases hc : SG = [] ∨ 8192 < (strJ 1 SG (SG.length - 1)).length + (recS (SG.flatten.length + 1) body).length
 ·have h2 : 2 * SG.length ≤ SG.flatten.length := by
   rcases h.two with h2 | ⟨S', ds, h1, h2⟩
   ·rw [h2]; simp
   ·have hd := List.length_pos_iff.2 (hne ds (by rw [h1]; simp))
    rcases hc with hc | hc
    ·rw [hc] at h1; simp at h1
    ·have hs : strJ 1 SG (SG.length - 1) = strS (1 + S'.flatten.length) ds := by
      rw [h1, strJ_snoc, if_pos (by simp)]
     rw [hs] at hc
     have hfl : SG.flatten.length = S'.flatten.length + ds.length := by rw [h1]; simp
     by_cases hd1 : ds.length = 1
     ·exfalso
      obtain ⟨b0, rfl⟩ := List.length_eq_one_iff.1 hd1
      have hb0 := hbod b0 (by rw [h1]; simp)
      have q1 := rec_le (1 + S'.flatten.length) titleS (by omega) (by decide)
      have q2 := rec_le (1 + S'.flatten.length) b0 (by omega) (by omega)
      rw [show titleS.length = 7 from rfl] at q1
      rw [strS, recBytes, recBytes, List.append_nil, List.length_append] at hc
      omega
     ·have : SG.length = S'.length + 1 := by rw [h1]; simp
      omega
  have hnx := h.next (SG' := SG ++ [[body]]) (body := body) (S := []) (S' := recS (SG.flatten.length + 1) titleS ++ recS (SG.flatten.length + 1) body) (j0 := SG.length) (M := ((recS (SG.flatten.length + 1) titleS ++ recS (SG.flatten.length + 1) body).length + 511) / 512) hb ht (by omega) List.nil_prefix (by rw [List.length_append]; omega) rfl (strJ_out SG 1 _ (Nat.le_refl _))
   (fun j => by
    rw [strJ_snoc, strS, recBytes, recBytes, List.append_nil, Nat.add_comm 1])
   (fun j => strU_snoc0 _ SG 1 u j hul) (by simp) (fun ds hds => by
    rcases List.mem_append.1 hds with hm | hm
    ·exact hne ds hm
    ·rw [List.mem_singleton.1 hm]; simp) ⟨SG, [body], rfl, by
     have hf : (SG ++ [[body]]).flatten.length = SG.flatten.length + 1 := by rw [List.flatten_append, List.length_append]; rfl
     rw [hf]
     show 2 * SG.length + 1 ≤ _
     omega⟩ (by simp)
  simp only [List.length_nil, Nat.zero_div, Nat.sub_zero] at hnx
  refine ⟨_, _, ?_, hnx, by simp⟩
  obtain ⟨sg, st, last, v, P0⟩ := a
  simp only at hsg hst hlast hPl hlv hnx ⊢
  subst hsg hst hlast
  rw [segsL_snoc]
  simp only [Nat.zero_add, List.length_singleton, Nat.add_comm 1]
  refine .b (by rw [segsL_len]; omega) (by omega) (fun j hj => (segsL_used j SG 0 1).2 ⟨by omega, by omega⟩) ?_ (by omega) (by omega) (hlen _) (by omega) ?_ rfl hlv (by omega)
  ·rw [Bool.eq_false_iff]
   intro hu
   have := (segsL_used SG.length SG 0 1).1 hu
   omega
  ·rcases hc with hc | hc
   ·left; rw [hc]; rfl
   ·exact .inr hc
 ·have hSne : SG ≠ [] := fun e => hc (.inl e)
  have hfit : (strJ 1 SG (SG.length - 1)).length + (recS (SG.flatten.length + 1) body).length ≤ 8192 := by
   by_cases hx : 8192 < (strJ 1 SG (SG.length - 1)).length + (recS (SG.flatten.length + 1) body).length
   ·exact absurd (.inr hx) hc
   ·omega
  rcases h.two with h2 | ⟨S', ds, h1, h2⟩
  ·exact absurd h2 hSne
  ·subst h1
   have hfl : (S' ++ [ds]).flatten.length = S'.flatten.length + ds.length := by simp
   have hjl : (S' ++ [ds]).length - 1 = S'.length := by simp
   have hs : strJ 1 (S' ++ [ds]) S'.length = strS (1 + S'.flatten.length) ds := by
    rw [strJ_snoc, if_pos rfl]
   rw [hjl, hs] at hfit hst
   have hss : strS (1 + S'.flatten.length) (ds ++ [body]) = strS (1 + S'.flatten.length) ds ++ recS ((S' ++ [ds]).flatten.length + 1) body := by
    rw [strS, strS, recBytes_app, List.append_assoc, hfl, show 1 + S'.flatten.length + ds.length = S'.flatten.length + ds.length + 1 by omega]
   rw [List.length_append, List.length_singleton] at h6
   have hnx := h.next (SG' := S' ++ [ds ++ [body]]) (body := body) (S := strS (1 + S'.flatten.length) ds) (S' := strS (1 + S'.flatten.length) ds ++ recS ((S' ++ [ds]).flatten.length + 1) body) (j0 := S'.length) (M := ((strS (1 + S'.flatten.length) ds ++ recS ((S' ++ [ds]).flatten.length + 1) body).length + 511) / 512) hb ht (by omega) (List.prefix_append _ _) (by rw [List.length_append]; omega) rfl hs
    (fun j => by
     rw [strJ_snoc, strJ_snoc, hss]
     split <;> rfl)
    (fun j => strU_snoc1 ds body S' 1 u j hul) (by simp) (fun d hd => by
     rcases List.mem_append.1 hd with hm | hm
     ·exact hne d (List.mem_append_left _ hm)
     ·rw [List.mem_singleton.1 hm]; simp) ⟨S', ds ++ [body], rfl, by simp at h2 ⊢; omega⟩ (by simp)
   refine ⟨_, _, ?_, hnx, by simp⟩
   obtain ⟨sg, st, last, v, P0⟩ := a
   simp only at hsg hst hlast hPl hlv hnx ⊢
   subst hsg hst hlast
   rw [segsL_snoc, segsL_snoc]
   simp only [Nat.zero_add, List.length_append, List.length_singleton]
   have := LApp.a (body := body) (sg := segsL 0 1 S') (s := (S'.length, 1 + S'.flatten.length, ds.length)) (st := strS (1 + S'.flatten.length) ds) (last := (S' ++ [ds]).flatten.length) (v := v) (P := P0) (by rw [segsL_len]; omega) (by simp only; omega) (by simp only; omega) ?_ (by omega) (by omega) (by omega) hfit rfl hlv (by omega)
   ·simpa using this
   ·intro e
    have := congrArg List.length e
    rw [strS, List.length_append, List.length_nil] at this
    have hr : 4 ≤ (recS (1 + S'.flatten.length) titleS).length := by
     rw [show recS (1 + S'.flatten.length) titleS = be4 (sealS (fieldS (1 + S'.flatten.length) titleS)).length ++ sealS (fieldS (1 + S'.flatten.length) titleS) from rfl, List.length_append, be4_len]
     omega
    omega
theorem LogI.sync {SG : List Bod} {u : Nat} {a : LogS} {g g' : Sec} (h : LogI SG u a g) (hg : g'.Perm a.v) : LogI SG SG.flatten.length ⟨a.sg, a.st, a.last, a.v, []⟩ g' := by
 have hgd : ∀ q, sgetD q g' = sgetD q a.v := fun q => by rw [sgetD, sgetD, sget_perm hg h.lv.1.1]
 refine ⟨h.ne, h.sg, h.st, h.last, h.bod, h.two, h.le, Nat.le_refl _, h.len, h.vs, fun j k hk => ?_, ⟨[], rfl, trivial, hgd, by simp, by simp⟩, h.lv, h.lv.perm hg⟩
 rw [hgd, strU_all SG 1 _ j h.ne (Nat.le_refl _)]
 exact h.vs j k hk

/-! ### a log behind a crash -/
theorem fok_congr {F F' : Nat → Option (Nat × Bod)} : ∀ {SG : List Bod} {k f u : Nat}, FOK F k f SG u → (∀ j, k ≤ j → F' j = F j) → FOK F' k f SG u
 | [], k, f, u, h, he => ⟨h.1, fun j h1 h2 => by rw [he j h1]; exact h.2 j h1 h2⟩
 | ds :: SG, k, f, u, h, he => by
  obtain ⟨h1, h2, h3⟩ := h
  refine ⟨h1, ?_, fok_congr h3 fun j hj => he j (by omega)⟩
  rw [he k (Nat.le_refl _)]
  exact h2
theorem ex_fok {v : Sec} : ∀ (SG : List Bod) (k f u : Nat), (∀ ds ∈ SG, ds ≠ []) → (∀ b ∈ SG.flatten, b.length ≤ 4000) → f + SG.flatten.length < 1000000 → k + SG.length ≤ 8 → (∀ j, (strJ f SG j).length ≤ 8192) → (∀ i, k + i < 8 → SecPre v (k + i) (strU f u SG i) (strJ f SG i)) → u ≤ SG.flatten.length →
  ∃ F : Nat → Option (Nat × Bod), (∀ j, k ≤ j → j < 8 → SegIs v j (F j)) ∧ FOK F k f SG u
 | [], k, f, u, _, _, _, _, _, h, hu => by
  refine ⟨fun _ => none, fun j h1 h2 => ?_, by simpa using hu, fun _ _ _ => rfl⟩
  have h3 := (h (j - k) (by omega)).segB_all (by rw [strU]; simp)
  rw [show k + (j - k) = j by omega, strJ] at h3
  have h4 := List.prefix_nil.1 h3.1
  show NoRec _
  rw [h4]; exact noRec_nil
 | ds :: SG, k, f, u, hne, hb, hf, hk, hl, h, hu => by
  rw [List.flatten_cons, List.length_append] at hu hf
  rw [List.length_cons] at hk
  obtain ⟨F, h1, h2⟩ := ex_fok (v := v) SG (k + 1) (f + ds.length) (u - ds.length) (fun x hx => hne x (List.mem_cons_of_mem _ hx)) (fun b hbm => hb b (by rw [List.flatten_cons]; exact List.mem_append_right _ hbm)) (by omega) (by omega) (fun j => by have := hl (j + 1); rwa [strJ] at this) (fun i hi => by
   have h3 := h (i + 1) (by omega)
   rw [strU, strJ, show k + (i + 1) = k + 1 + i by omega] at h3
   exact h3) (by omega)
  have h0 := (h 0 (by omega)).segB_all (Nat.le_trans (strU_pre _ _ _ _).length_le (hl 0))
  rw [Nat.add_zero, strU, strJ] at h0
  obtain ⟨x, x1, x2, x3⟩ := seg_parse (fun b hbm => by have := hb b (by rw [List.flatten_cons]; exact List.mem_append_left _ hbm); omega) (by omega) h0.1
  refine ⟨fun j => if j = k then x else F j, fun j j1 j2 => ?_, hne ds List.mem_cons_self, ?_, fok_congr h2 fun j hj => ?_⟩
  ·show SegIs v j (if j = k then x else F j)
   split
   ·rename_i hjk
    subst hjk; exact x1
   ·exact h1 j (by omega) j2
  ·show ((if k = k then x else F k) = none ∧ u = 0) ∨ ∃ r, r ≤ ds.length ∧ (if k = k then x else F k) = some (f, ds.take r) ∧ min u ds.length ≤ r
   rw [if_pos rfl]
   by_cases hu0 : u = 0
   ·rcases x2 with x2 | ⟨r, r1, r2⟩
    ·exact .inl ⟨x2, hu0⟩
    ·exact .inr ⟨r, r1, r2, by omega⟩
   ·have h4 := h0.2
    rw [if_neg hu0] at h4
    have ht : ds.take (min u ds.length) = ds.take u := by
     by_cases hul : u ≤ ds.length
     ·rw [Nat.min_eq_left hul]
     ·rw [Nat.min_eq_right (by omega), List.take_of_length_le (Nat.le_refl _), List.take_of_length_le (by omega)]
    obtain ⟨r, r1, r2, r3⟩ := x3 (min u ds.length) (Nat.min_le_right _ _) (by rw [ht]; exact h4)
    exact .inr ⟨r, r2, r3, r1⟩
  ·show (if j = k then x else F j) = F j
   rw [if_neg (by omega)]
theorem crashG_log {sv : List (Int × Int)} : ∀ (P : List (Nat × List UInt8)) (i : Nat) (g : Sec), LogSec g → (∀ w ∈ P, (802 ≤ w.1 ∧ w.1 < 930) ∧ w.2.length ≤ 512) → LogSec (crashG sv i g P)
 | [], _, _, h, _ => h
 | w :: r, i, g, h, hw => by
  rw [crashG]
  refine crashG_log r (i + 1) _ ?_ fun x hx => hw x (List.mem_cons_of_mem _ hx)
  obtain ⟨h1, h2⟩ := hw w List.mem_cons_self
  unfold crash1
  split
  ·exact h.put _ h1 (torn_len h2 (h.1.get _))
  ·exact h
theorem segB_congr {v v' : Sec} (h : ∀ q, sget q v' = sget q v) (j : Nat) : ∀ (n k : Nat), segB v' j k n = segB v j k n
 | 0, _ => rfl
 | n + 1, k => by
  rw [segB, segB, h, segB_congr h j n (k + 1)]
theorem segIs_congr {v v' : Sec} (h : ∀ q, sget q v' = sget q v) (j : Nat) (x : Option (Nat × Bod)) (hx : SegIs v j x) : SegIs v' j x := by
 cases x with
 | none =>
  show NoRec _
  rw [segB_congr h]; exact hx
 | some x =>
  obtain ⟨tail, h1, h2⟩ := hx
  exact ⟨tail, by rw [segB_congr h]; exact h1, h2⟩
theorem LogI.crash {SG : List Bod} {u : Nat} {a : LogS} {g : Sec} (h : LogI SG u a g) (sv : List (Int × Int)) : ∃ (P : List (Nat × List UInt8)) (r : Nat), a.P = P.map wrt ∧ (∀ w ∈ P, w.2.length ≤ 512) ∧ P.length ≤ 192 ∧ u ≤ r ∧ r ≤ SG.flatten.length ∧
  ∀ v', v'.Perm (crashG sv 0 g P) → LogSec v' ∧ ∃ F : Nat → Option (Nat × Bod), (∀ i, i < 8 → SegIs v' i (F i)) ∧ AllOK (foundL F 8) ∧ (outL ((foundL F 8).take (takenN (foundL F 8)))).map Prod.snd = SG.flatten.take r := by
 obtain ⟨P, hP, pc, pa, pm, pl⟩ := h.p
 have hle := h.le
 have h6 := h.six
 have hL := crashG_log (sv := sv) P 0 g h.lg pm
 have hpre : ∀ i, 0 + i < 8 → SecPre (crashG sv 0 g P) (0 + i) (strU 1 u SG i) (strJ 1 SG i) := by
  intro i _ k hk
  rw [Nat.zero_add]
  obtain ⟨b1, b2⟩ := crash_between (sv := sv) (P := P) (i := 0) (st := g) (cur := g) (fun q => List.prefix_refl _) pc (802 + 16 * i + k)
  rw [pa, h.vs i k hk] at b2
  rw [h.gs i k hk] at b1
  unfold sgetD at b1 b2
  cases hq : sget (802 + 16 * i + k) (crashG sv 0 g P) with
  | none =>
   rw [hq] at b1
   exact .inl ⟨rfl, List.prefix_nil.1 b1⟩
  | some p =>
   rw [hq] at b1 b2
   exact .inr ⟨p, rfl, b2, b1⟩
 obtain ⟨F, f1, f2⟩ := ex_fok SG 0 1 u h.ne h.bod (by omega) (by omega) h.len hpre h.ul
 obtain ⟨g1, r, g2, g3, g4⟩ := found_law f2 (by omega) h.ul (by omega)
 refine ⟨P, r, hP, fun w hw => (pm w hw).2, by omega, g2, g3, fun v' hv' => ⟨hL.perm hv', F, fun i hi => ?_, g1, g4⟩⟩
 exact segIs_congr (fun q => sget_perm hv' hL.1.1 q) i _ (f1 i (Nat.zero_le _) hi)

/-! ### the database: cells, tree and log -/
theorem chsS_le {k : Nat} : ∀ {cs : List Cel}, (∀ c ∈ cs, (chS c).length ≤ k) → (chsS cs).length ≤ k * cs.length
 | [], _ => by simp [chsS]
 | c :: cs, h => by
  have h1 := h c List.mem_cons_self
  have h2 := chsS_le (cs := cs) fun x hx => h x (List.mem_cons_of_mem _ hx)
  rw [show chsS (c :: cs) = chS c ++ chsS cs from rfl, List.length_append, List.length_cons, Nat.mul_add, Nat.mul_one]
  omega
theorem body_len {n : Nat} {ws : List Wt} (h : chk ws = 0) (hn : n ≤ 1000000) : (showS (comL n ws)).length ≤ 4000 := by
 have hl := chk_len h
 have h1 := chsS_le (k := 417) (cs := comL n ws) fun c hc => by
  obtain ⟨c1, c2⟩ := comL_sz h hn c hc
  have t1 := tput_len c.1 (by omega)
  have t2 := tput_len c.2 (by omega)
  rw [chS, List.length_append, List.length_cons]
  omega
 have hc : (comL n ws).length ≤ 9 := by rw [comL, List.length_cons, List.length_map]; omega
 have h2 := vput_10 (comL n ws).length (by omega)
 rw [showS, List.length_append]
 have h3 := Nat.mul_le_mul_left 417 hc
 omega
def DbL (ds : List Bt) (u : Nat) (W : PgM) (m : Nat) (l : List Cel) (a : LogS) (g : Sec) : Prop := DbT ds W m l ∧ (∀ b ∈ ds, chk b.2.2.2 = 0) ∧ ∃ SG, LogI SG u a g ∧ SG.flatten = (comsL 1 ds).map showS
theorem DbL.zero : DbL [] 0 W0 1 [] A0 [] := ⟨DbT.zero, by simp, [], LogI.zero, rfl⟩
theorem fl_len {SG : List Bod} {ds : List Bt} (h : SG.flatten = (comsL 1 ds).map showS) : SG.flatten.length = ds.length := by
 rw [h, List.length_map, comsL_len]
theorem DbL.step {ds : List Bt} {u : Nat} {W : PgM} {m : Nat} {l : List Cel} {a : LogS} {g : Sec} (h : DbL ds u W m l a g) (cl r s : Int) (ws : List Wt) (hd : ds.length < 12) (hc : chk ws = 0) :
  ∃ W' m' l' b, LApp (showS (comL (ds.length + 1) ws)) a b ∧ Puts W m (comL (ds.length + 1) ws) W' m' ∧ DbL (ds ++ [(cl, r, s, ws)]) u W' m' l' b g := by
 obtain ⟨h1, h2, SG, h3, h4⟩ := h
 obtain ⟨W', m', l', p1, p2⟩ := h1.step (cl, r, s, ws) hd hc
 obtain ⟨SG', b, q1, q2, q3⟩ := h3.step (body := showS (comL (ds.length + 1) ws)) (body_len hc (by omega)) (by rw [fl_len h4]; exact hd)
 refine ⟨W', m', l', b, q1, p1, p2, fun x hx => ?_, SG', q2, ?_⟩
 ·rcases List.mem_append.1 hx with hm | hm
  ·exact h2 x hm
  ·rw [List.mem_singleton.1 hm]; exact hc
 ·rw [q3, h4, comsL_snoc, List.map_append, Nat.add_comm 1]
  rfl
theorem DbL.sync {ds : List Bt} {u : Nat} {W : PgM} {m : Nat} {l : List Cel} {a : LogS} {g g' : Sec} (h : DbL ds u W m l a g) (hg : g'.Perm a.v) : DbL ds ds.length W m l ⟨a.sg, a.st, a.last, a.v, []⟩ g' := by
 obtain ⟨h1, h2, SG, h3, h4⟩ := h
 have := h3.sync hg
 rw [fl_len h4] at this
 exact ⟨h1, h2, SG, this, h4⟩
theorem comsL_take : ∀ (r n : Nat) (ds : List Bt), (comsL n ds).take r = comsL n (ds.take r)
 | 0, n, ds => by rw [List.take_zero, List.take_zero]; rfl
 | r + 1, n, [] => by rw [List.take_nil]; rfl
 | r + 1, n, d :: ds => by rw [List.take_succ_cons, comsL, comsL, List.take_succ_cons, comsL_take r (n + 1) ds]
theorem log_out {v : Sec} (h : LogSec v) {q : Nat} (hq : q < 802) : sget q v = none := by
 refine sget_none fun hm => ?_
 obtain ⟨p, hp, rfl⟩ := List.mem_map.1 hm
 have := (h.2 p hp).1
 omega
theorem DbL.crash {ds : List Bt} {u : Nat} {W : PgM} {m : Nat} {l : List Cel} {a : LogS} {g : Sec} (h : DbL ds u W m l a g) (sv : List (Int × Int)) : ∃ (P : List (Nat × List UInt8)) (r : Nat) (W' : PgM) (m' : Nat) (l' : List Cel), a.P = P.map wrt ∧ SecOK g ∧ (∀ w ∈ P, w.2.length ≤ 512) ∧ P.length ≤ 100000 ∧ u ≤ r ∧ r ≤ ds.length ∧ (∀ v', v'.Perm (crashG sv 0 g P) → OpnS v' (comsL 1 (ds.take r))) ∧ Runs W0 1 (comsL 1 (ds.take r)) W' m' ∧ DbF (ds.take r) W' m' l' := by
 obtain ⟨h1, h2, SG, h3, h4⟩ := h
 obtain ⟨P, r, p1, p2, p3, p4, p5, p6⟩ := h3.crash sv
 rw [fl_len h4] at p5
 obtain ⟨W', m', l', q1, q2⟩ := runs_law ds h1.le h2 r p5
 refine ⟨P, r, W', m', l', p1, h3.lg.1, p2, by omega, p4, p5, fun v' hv' => ?_, q1, q2.fact⟩
 obtain ⟨o1, F, o2, o3, o4⟩ := p6 v' hv'
 refine ⟨log_out o1 (by omega), log_out o1 (by omega), o1.1, F, o2, o3, ?_⟩
 rw [o4, h4, ← List.map_take, comsL_take]

/-- what TopCommits keeps -/
def Inv1 (ds : List Bt) (W : PgM) (m : Nat) (l : List Cel) (a : LogS) : Prop := DbL ds 0 W m l a []
theorem inv1_ok : DbInv Inv1 := ⟨DbL.zero, fun h => h.1.fact, fun cl r s ws h hd hc => DbL.step h cl r s ws hd hc⟩
/-- what TopCrashes keeps -/
def Inv2 (ds : List Bt) (u : Nat) (W : PgM) (m : Nat) (l : List Cel) (a : LogS) (g : Sec) (_ : Nat) : Prop := DbL ds u W m l a g
theorem inv2_ok : DbInv2 Inv2 :=
 ⟨DbL.zero, fun h => by
  obtain ⟨h1, h2, SG, h3, h4⟩ := h
  have := h3.ul
  rw [fl_len h4] at this
  exact ⟨h1.fact, h3.lv.1, this⟩, fun cl r s ws h hd hc => DbL.step h cl r s ws hd hc, fun h hg => DbL.sync h hg, fun sv h _ _ => DbL.crash h sv⟩
theorem alive_all : CallT Tryz.prog 7 [] [] fun r σ => r = .u (.b true) ∧ σ = [] := by
 have hc : chk wax = 0 := by decide
 obtain ⟨W1, m1, l1, b, q1, q2, q3⟩ := DbL.zero.step 0 0 0 wax (by simp) hc
 have hF := q3.1.fact
 obtain ⟨x, x1, x2, x3⟩ := hF.get [97] 1 (by simp) (by simp)
 have hx : x = ([120], true) := by
  obtain ⟨y, z⟩ := x
  have hv : valR [((0, 0, 0, wax) : Bt)] [97] = ([120], true) := by decide
  have x2' : z = (valR [((0, 0, 0, wax) : Bt)] [97]).2 := x2
  have x3' : (if z then y else []) = (valR [((0, 0, 0, wax) : Bt)] [97]).1 := x3
  rw [hv] at x2' x3'
  simp only at x2' x3'
  subst x2'
  rw [if_pos rfl] at x3'
  rw [x3']
 rw [hx] at x1
 have hz := DbT.zero.fact
 have hlv : SecOK b.v := by
  obtain ⟨_, _, SG, h3, _⟩ := q3
  exact h3.lv.1
 have hcr := (q3.sync (List.Perm.refl _)).crash []
 obtain ⟨P, r, W', m', l', p1, _, _, _, p4, p5, p6, _⟩ := hcr
 have hP : P = [] := by
  have := congrArg List.length p1
  rw [List.length_map] at this
  exact List.length_eq_zero_iff.1 this.symm
 have hr : r = 1 := by simp at p4 p5; omega
 subst hP hr
 exact alive_ok hz.rd W1 m1 l1 b hz.cnt q1 q2 hF.rd hF.len hF.ok x1 hlv (fun v' hv' => p6 v' hv') (comL_size hc (by simp))
end Go.Proofs.YtefipnajpabfgaaGreatDoor

namespace Go.Proofs.YtefipnajpabfgaaGreatDoor
open Go.Nm Go.ChangeShapes Go.WideShapes Go.ChangeAt Go.RowKit

/-! ### what comes in, and the listed variable -/
theorem own : ownKnob Tryz.prog.godebug = none := by kernel_rfl
theorem laidOut : laidOutB Tryz.prog = true := by kernel_rfl
theorem gBits : Tryz.prog.globalNamed "lapstone/num.bits" = some 0 := by kernel_rfl
theorem tBits : (Tryz.prog.globals[0]?).map (·.type) = some 251 := by kernel_rfl
def laid1 {H : Type} : List (String × DataW H) := [("lapstone/num.bits", Rows.laid_lapstone_num_bits)]
/-- what the listed variable gives the walks -/
theorem bits_of_laid {W : World} (h : laidMetH Tryz.prog laid1 W) : GOK (fz0 W) := by
 unfold laid1 at h
 rw [MakeChecks.laidMetH_plain _ _ _ (by kernel_rfl)] at h
 obtain ⟨ps, ⟨g0, t0, cs0, f0, p0, q0, hg0, ht0, hv0, hd0, _, _⟩, _⟩ := h
 obtain rfl := Option.some.inj (gBits.symm.trans hg0)
 obtain rfl := Option.some.inj (tBits.symm.trans ht0)
 obtain ⟨xs, m1, rfl, hx1, hlen, hn3, hel⟩ := DataW.trod_array Tryz.underlying251 hd0
 have c3 : Tryz.prog.cellsOf 250 = 1 := by kernel_rfl
 simp only [Prod.mk.injEq, Rows.laid_lapstone_num_bits, DataW.agg.injEq] at hx1
 have hnum : ∀ j, j < 9 → cs0[j]? = some (Value.int .u64 (8 * j : Nat)) := by
  intro j hj
  have h0 := hel j (by omega)
  have hjx : j < xs.length := by omega
  rw [List.getElem?_eq_getElem hjx] at h0
  obtain ⟨k, e1, e2, _⟩ := DataW.trod_int Tryz.underlying250 h0
  have e3 : (xs.map Prod.fst)[j]? = some (.lit (.int .u64 k)) := by
   rw [List.getElem?_map, List.getElem?_eq_getElem hjx, Option.map_some, e2]
  rw [← hx1.1] at e3
  have hk : k = (8 * j : Nat) := by
   have : j = 0 ∨ j = 1 ∨ j = 2 ∨ j = 3 ∨ j = 4 ∨ j = 5 ∨ j = 6 ∨ j = 7 ∨ j = 8 := by omega
   rcases this with rfl | rfl | rfl | rfl | rfl | rfl | rfl | rfl | rfl <;> (simp at e3; rw [← e3]; rfl)
  rw [hk, c3, Nat.mul_one] at e1
  have e4 := congrArg (fun l => l[0]?) e1
  simp only [List.getElem?_take_of_lt (show 0 < 1 by omega), List.getElem?_drop, Nat.add_zero, List.getElem?_cons_zero] at e4
  rw [← e4]
  simp
 intro g cs hg
 unfold Glob at hg
 split at hg
 ·rename_i hg0'
  subst hg0'
  injection hg with hg
  subst hg
  refine ⟨fun j => .int .u64 (8 * j : Nat), fun j x hx => ?_⟩
  have hj : j < 9 := (List.getElem?_eq_some_iff.1 hx).1
  refine ⟨fz0_cell ?_, ?_⟩
  ·have := World.var?_cell hg0 hv0 j
   rw [hnum j hj] at this
   exact this
  ·have hxx : x = .i .u64 (8 * j : Nat) := by
    have : j = 0 ∨ j = 1 ∨ j = 2 ∨ j = 3 ∨ j = 4 ∨ j = 5 ∨ j = 6 ∨ j = 7 ∨ j = 8 := by omega
    rcases this with rfl | rfl | rfl | rfl | rfl | rfl | rfl | rfl | rfl <;> (simp at hx; rw [← hx]; rfl)
   rw [hxx]
   exact .i _ _
 ·cases hg
theorem door_met (os : Os) (args : Array Value) : laidMetH Tryz.prog laid1 ((World.doorLaid Tryz.prog 400 os).forCall (fun _ _ => 0) ⟨#[], args, []⟩).memory :=
 laidMetH_of_parts3 (fuel := 8) (laidMet_of_run' 8 (by kernel_rfl) (by kernel_rfl)) (by kernel_rfl) (by kernel_rfl)

theorem ret_true : ∀ Φ v, VP Φ (.b true) v → v = .bool true := by
 intro Φ v h
 cases h; rfl

section
variable {H : Type} {enc : TypeId × Value → H} {w : World} {base : Nat} {spare : Nat → Bool} {held : Bool}
theorem opens_write : Opens enc Tryz.prog w base spare held 44 wrow fun _ => True :=
 (opens_struct (t := 44) (n := 3) Tryz.underlying44 (by kernel_rfl) (fun _ => rfl)
  (opensF_cons (n := 1) rfl (by kernel_rfl) (fun _ => rfl) (opens_string (by kernel_rfl))
   (opensF_cons (n := 1) rfl (by kernel_rfl) (fun _ => rfl) (opens_string (by kernel_rfl))
    (opensF_one (n := 1) rfl (by kernel_rfl) (fun _ => rfl) (opens_bool (by kernel_rfl)))))).map (fun x => x) (fun _ => rfl) (fun _ _ => trivial)
theorem opens_batch : Opens enc Tryz.prog w base spare held 34 brow fun b => 0 ≤ b.2.2.1 :=
 (opens_struct (t := 34) (n := 4) Tryz.underlying34 (by kernel_rfl) (fun _ => rfl)
  (opensF_cons (n := 1) rfl (by kernel_rfl) (fun _ => rfl) (opens_int (k := .u64) (by kernel_rfl))
   (opensF_cons (n := 1) rfl (by kernel_rfl) (fun _ => rfl) (opens_int (k := .u64) (by kernel_rfl))
    (opensF_cons (n := 1) rfl (by kernel_rfl) (fun _ => rfl) (opens_int (k := .u64) (by kernel_rfl))
     (opensF_one (n := 1) rfl (by kernel_rfl) (fun _ => rfl) (opens_slice (e := 44) (sz := 3) (by kernel_rfl) (by kernel_rfl) opens_write)))))).map (fun x => (x.1, x.2.1, x.2.2.1, x.2.2.2)) (fun _ => rfl) (fun x h => by
   have h3 := h.2.2.1
   have : IntKind.u64.min ≤ x.2.2.1 ∧ x.2.2.1 ≤ IntKind.u64.max := by simpa [Lit.wf] using h3
   exact this.1)
theorem opens_batches : Opens enc Tryz.prog w base spare held 22 (fun xs : List Bt => [.fz (xs.map brow) none]) fun xs => (∀ x ∈ xs, 0 ≤ x.2.2.1) ∧ xs.length ≤ maxLen :=
 opens_slice (e := 34) (sz := 4) (by kernel_rfl) (by kernel_rfl) opens_batch
theorem opens_bools : Opens enc Tryz.prog w base spare held 57 (fun xs : List Bool => [.fz (xs.map blrow) none]) fun xs => (∀ x ∈ xs, True) ∧ xs.length ≤ maxLen :=
 opens_slice (e := 4) (sz := 1) (by kernel_rfl) (by kernel_rfl) (opens_bool (by kernel_rfl))
theorem opens_left : Opens enc Tryz.prog w base spare held 109 svrow fun _ => True :=
 (opens_struct (t := 109) (n := 2) Tryz.underlying109 (by kernel_rfl) (fun _ => rfl)
  (opensF_cons (n := 1) rfl (by kernel_rfl) (fun _ => rfl) (opens_int (k := .i64) (by kernel_rfl))
   (opensF_one (n := 1) rfl (by kernel_rfl) (fun _ => rfl) (opens_int (k := .i64) (by kernel_rfl))))).map (fun x => x) (fun _ => rfl) (fun _ _ => trivial)
theorem opens_lefts : Opens enc Tryz.prog w base spare held 58 (fun xs : List (Int × Int) => [.fz (xs.map svrow) none]) fun xs => (∀ x ∈ xs, True) ∧ xs.length ≤ maxLen :=
 opens_slice (e := 109) (sz := 2) (by kernel_rfl) (by kernel_rfl) opens_left
end
end Go.Proofs.YtefipnajpabfgaaGreatDoor
