/- The engine, twenty-first part: the look at a region that draws its order; the run of code. -/
/- Merged by a program of ours: Eng18 Eng19 Eng20 Eng21. -/
import Derived.Test.YthfopcdammlmfaaGreatDoorA4
set_option maxRecDepth 10000
set_option linter.all false
set_option linter.unusedSimpArgs false
set_option linter.unusedVariables false
/- The engine, eighteenth part: a region that draws its order: whatever order, one outcome. (What must come before what; schedules.) -/
namespace Go.Tm
def preds (o : Oper) : List Nat := (o.after.toList.filter (Region.binds .any)).map (·.on)
def orMask (acc : List Nat) : List Nat → Nat
 | [] => 0
 | p :: l => (2 ^ p ||| acc.getD p 0) ||| orMask acc l
def masks : List Oper → List Nat → List Nat
 | [], acc => acc
 | o :: l, acc => masks l (acc ++ [orMask acc (preds o)])
def bef (M : List Nat) (j i : Nat) : Bool := (M.getD i 0).testBit j
theorem testBit_orMask {acc : List Nat} {j : Nat} : ∀ {ps : List Nat}, (orMask acc ps).testBit j = true → ∃ p, p ∈ ps ∧ (j = p ∨ (acc.getD p 0).testBit j = true)
 | [], h => by simp [orMask] at h
 | p :: l, h => by
   simp only [orMask, Nat.testBit_or, Bool.or_eq_true] at h
   rcases h with (h | h) | h
   ·rw [Nat.testBit_two_pow] at h
    exact ⟨p, by simp, .inl (by simpa [eq_comm] using h)⟩
   ·exact ⟨p, by simp, .inr h⟩
   ·obtain ⟨q, hq, h⟩ := testBit_orMask h
    exact ⟨q, by simp [hq], h⟩
theorem masks_prefix : ∀ (l : List Oper) (acc : List Nat) (k : Nat), k < acc.length → (masks l acc).getD k 0 = acc.getD k 0
 | [], acc, k, _ => rfl
 | o :: l, acc, k, h => by
   simp only [masks]
   rw [masks_prefix l _ k (by simp; omega)]
   simp [List.getD, List.getElem?_append_left h]
theorem masks_at : ∀ (l : List Oper) (acc : List Nat) (k : Nat) (o : Oper), l[k]? = some o →
 ∃ acc' : List Nat, acc'.length = acc.length + k ∧ (∀ p, p < acc.length + k → acc'.getD p 0 = (masks l acc).getD p 0) ∧ (masks l acc).getD (acc.length + k) 0 = orMask acc' (preds o)
 | [], acc, k, o, h => by simp at h
 | u :: l, acc, 0, o, h => by
   simp at h; subst h
   refine ⟨acc, by simp, fun p hp => ?_, ?_⟩
   ·simp only [masks]; rw [masks_prefix l _ p (by simp at hp ⊢; omega)]
    simp at hp
    simp [List.getD, List.getElem?_append_left hp]
   ·simp only [masks]; rw [masks_prefix l _ _ (by simp)]
    simp [List.getD]
 | u :: l, acc, k + 1, o, h => by
   simp at h
   obtain ⟨acc', h1, h2, h3⟩ := masks_at l (acc ++ [orMask acc (preds u)]) k o h
   simp only [List.length_append, List.length_cons, List.length_nil, Nat.zero_add] at h1 h2 h3
   refine ⟨acc', by omega, fun p hp => ?_, ?_⟩
   ·simp only [masks]; exact h2 p (by omega)
   ·simp only [masks]; rw [← h3]; congr 1; omega
theorem masks_length : ∀ (l : List Oper) (acc : List Nat), (masks l acc).length = acc.length + l.length
 | [], acc => rfl
 | o :: l, acc => by simp only [masks]; rw [masks_length]; simp; omega
theorem bef_pred {O : List Oper} {j i : Nat} (h : bef (masks O []) j i = true) : ∃ o, O[i]? = some o ∧ ∃ p, p ∈ preds o ∧ (j = p ∨ (p < i ∧ bef (masks O []) j p = true)) := by
 have hi : i < O.length := by
  rcases Nat.lt_or_ge i O.length with h' | h'
  ·exact h'
  ·have e : (masks O [])[i]? = none := List.getElem?_eq_none (by rw [masks_length]; simpa using h')
   simp [bef, List.getD, e] at h
 have ho : O[i]? = some O[i] := List.getElem?_eq_getElem hi
 obtain ⟨acc', h1, h2, h3⟩ := masks_at O [] i _ ho
 simp only [List.length_nil, Nat.zero_add] at h1 h2 h3
 unfold bef at h
 rw [h3] at h
 obtain ⟨p, hp, hj⟩ := testBit_orMask h
 refine ⟨_, ho, p, hp, ?_⟩
 rcases hj with hj | hj
 ·exact .inl hj
 ·right
  have hpi : p < i := by
   rcases Nat.lt_or_ge p i with h' | h'
   ·exact h'
   ·have e : acc'[p]? = none := List.getElem?_eq_none (by omega)
    simp [List.getD, e] at hj
  exact ⟨hpi, by unfold bef; rw [← h2 p hpi]; exact hj⟩
def Closed (O : List Oper) (D : List Nat) : Prop := ∀ i o, i ∈ D → O[i]? = some o → ∀ p, p ∈ preds o → p ∈ D
theorem bef_done {O : List Oper} {D : List Nat} (hD : Closed O D) : ∀ (i j : Nat), i ∈ D → bef (masks O []) j i = true → j ∈ D := by
 intro i
 induction i using Nat.strongRecOn with
 | _ i ih =>
   intro j hi h
   obtain ⟨o, ho, p, hp, hj⟩ := bef_pred h
   have hpD := hD i o hi ho p hp
   rcases hj with rfl | ⟨hlt, hj⟩
   ·exact hpD
   ·exact ih p hlt j hpD hj
theorem bef_ready {O : List Oper} {D : List Nat} (hD : Closed O D) {i j : Nat} (hr : ∀ o, O[i]? = some o → ∀ p, p ∈ preds o → p ∈ D) (h : bef (masks O []) j i = true) : j ∈ D := by
 obtain ⟨o, ho, p, hp, hj⟩ := bef_pred h
 rcases hj with rfl | ⟨_, hj⟩
 ·exact hr o ho _ hp
 ·exact bef_done hD p j (hr o ho p hp) hj
def Down (O : List Oper) : Prop := ∀ i o, O[i]? = some o → ∀ p, p ∈ preds o → p < i
theorem bef_lt {O : List Oper} (hO : Down O) : ∀ (i j : Nat), bef (masks O []) j i = true → j < i := by
 intro i
 induction i using Nat.strongRecOn with
 | _ i ih =>
   intro j h
   obtain ⟨o, ho, p, hp, hj⟩ := bef_pred h
   have hpi := hO i o ho p hp
   rcases hj with rfl | ⟨hlt, hj⟩
   ·exact hpi
   ·have := ih p hlt j hj; omega
def Sched (O : List Oper) : List Nat → List Nat → Prop
 | D, [] => ∀ i, i < O.length → i ∈ D
 | D, i :: r => i < O.length ∧ i ∉ D ∧ (∀ o, O[i]? = some o → ∀ p, p ∈ preds o → p ∈ D) ∧ Sched O (i :: D) r
theorem nodup_le : ∀ (n : Nat) (l : List Nat), l.Nodup → (∀ x, x ∈ l → x < n) → l.length ≤ n
 | 0, l, _, h => by
   cases l with
   | nil => simp
   | cons x l => have := h x (by simp); omega
 | n + 1, l, hn, h => by
   have h1 := nodup_le n (l.erase n) (hn.erase n) (fun x hx => by
    have hx2 := (hn.mem_erase_iff).1 hx
    have := h x hx2.2; have := hx2.1; omega)
   have := List.length_erase (a := n) (l := l)
   split at this <;> omega
theorem le_of_all : ∀ (n : Nat) (l : List Nat), (∀ i, i < n → i ∈ l) → n ≤ l.length
 | 0, _, _ => Nat.zero_le _
 | n + 1, l, h => by
   have h1 := le_of_all n (l.erase n) (fun i hi => (List.mem_erase_of_ne (by omega)).2 (h i (by omega)))
   rw [List.length_erase_of_mem (h n (by omega))] at h1
   have : 0 < l.length := List.length_pos_of_mem (h n (by omega))
   omega
theorem least_not (P : Nat → Prop) : ∀ n, P n → ∃ i, i ≤ n ∧ P i ∧ ∀ j, j < i → ¬ P j := by
 intro n
 induction n using Nat.strongRecOn with
 | _ n ih =>
   intro h
   by_cases hx : ∃ j, j < n ∧ P j
   ·obtain ⟨j, hj, hP⟩ := hx
    obtain ⟨i, h1, h2, h3⟩ := ih j hj hP
    exact ⟨i, by omega, h2, h3⟩
   ·exact ⟨n, Nat.le_refl _, h, fun j hj hP => hx ⟨j, hj, hP⟩⟩
theorem go_sched {ops : Array Oper} (hO : Down ops.toList) : ∀ (fuel t : Nat) (listed : Array Bool) (acc : List Nat), listed.size = ops.size → (∀ i, i < ops.size → (listed.getD i true = true ↔ i ∈ acc)) →
 (∀ i, i ∈ acc → i < ops.size) → acc.Nodup → acc.length + fuel = ops.size → ∃ r, Region.linearise.go .any ops fuel t listed acc = acc.reverse ++ r ∧ Sched ops.toList acc r
 | 0, t, listed, acc, hs, hl, hb, hn, hf => by
   refine ⟨[], by simp [Region.linearise.go], fun i hi => ?_⟩
   apply Classical.byContradiction
   intro hni
   have := nodup_le ops.size (i :: acc) (List.nodup_cons.2 ⟨hni, hn⟩) (fun x hx => by
    simp only [List.mem_cons] at hx
    rcases hx with rfl | hx
    ·simpa using hi
    ·exact hb x hx)
   simp only [List.length_cons] at this; omega
 | fuel + 1, t, listed, acc, hs, hl, hb, hn, hf => by
   have hdec : ∃ i, i < ops.size ∧ i ∉ acc ∧ ∀ j, j < i → j ∈ acc := by
    have hex : ∃ i, i < ops.size ∧ i ∉ acc := by
     apply Classical.byContradiction
     intro hne
     have := le_of_all ops.size acc (fun i hi => Classical.byContradiction fun h => hne ⟨i, hi, h⟩)
     omega
    obtain ⟨i, hi, hni⟩ := hex
    obtain ⟨k, h1, h2, h3⟩ := least_not (fun i => i < ops.size ∧ i ∉ acc) i ⟨hi, hni⟩
    exact ⟨k, h2.1, h2.2, fun j hj => Classical.byContradiction fun h => h3 j hj ⟨by omega, h⟩⟩
   obtain ⟨k, hk, hka, hkl⟩ := hdec
   simp only [Region.linearise.go]
   generalize hrs : (List.filter (fun i => !listed.getD i true && ((ops[i]?).map (fun o => o.after.all fun e => !Region.binds .any e || listed.getD e.on false)).getD false) (List.range ops.size)) = rs
   have hlf : ∀ i, i < ops.size → listed.getD i false = listed.getD i true := by
    intro i hi; simp [Array.getD, hs, hi]
   have hkr : k ∈ rs := by
    rw [← hrs, List.mem_filter]
    refine ⟨by simpa using hk, ?_⟩
    have h1 : listed.getD k true = false := by
     cases hh : listed.getD k true with
     | false => rfl
     | true => exact absurd ((hl k hk).1 hh) hka
    simp only [h1, Bool.not_false, Bool.true_and]
    rw [Array.getElem?_eq_getElem hk]
    simp only [Option.map_some, Option.getD_some]
    rw [Array.all_eq_true']
    intro e he
    cases hb2 : Region.binds .any e with
    | false => rfl
    | true =>
      simp only [Bool.not_true, Bool.false_or]
      have hp : e.on < k := hO k ops[k] (by simp [hk]) e.on (by
       simp only [preds, List.mem_map, List.mem_filter]
       exact ⟨e, ⟨by simpa using he, hb2⟩, rfl⟩)
      rw [hlf _ (by omega)]
      exact (hl e.on (by omega)).2 (hkl _ hp)
   have hpos : 0 < rs.length := List.length_pos_of_mem hkr
   have hm : t % rs.length < rs.length := Nat.mod_lt _ hpos
   rw [List.getElem?_eq_getElem hm]
   simp only
   have hir : rs[t % rs.length] ∈ rs := List.getElem_mem hm
   generalize rs[t % rs.length] = i at hir
   rw [← hrs, List.mem_filter] at hir
   obtain ⟨hi1, hi2⟩ := hir
   have hi : i < ops.size := by simpa using hi1
   simp only [Bool.and_eq_true, Bool.not_eq_true'] at hi2
   have hia : i ∉ acc := fun h => by have := (hl i hi).2 h; rw [hi2.1] at this; cases this
   obtain ⟨r, hr1, hr2⟩ := go_sched hO fuel (t / rs.length) (listed.setIfInBounds i true) (i :: acc) (by simpa using hs) (by
    intro j hj
    by_cases e : i = j
    ·subst e; simp [Array.getD, hs, hj]
    ·have h0 : (listed.setIfInBounds i true).getD j true = listed.getD j true := by
      rw [Array.getD_eq_getD_getElem?, Array.getD_eq_getD_getElem?, Array.getElem?_setIfInBounds_ne e]
     rw [h0, hl j hj]
     simp only [List.mem_cons]
     constructor
     ·exact .inr
     ·rintro (h | h)
      ·exact absurd h.symm e
      ·exact h) (by
    intro j hj
    simp only [List.mem_cons] at hj
    rcases hj with rfl | hj
    ·exact hi
    ·exact hb j hj) (List.nodup_cons.2 ⟨hia, hn⟩) (by simp only [List.length_cons]; omega)
   refine ⟨i :: r, by rw [hr1]; simp, by simpa using hi, hia, ?_, hr2⟩
   intro o ho p hp
   rw [Array.getElem?_toList] at ho
   rw [ho] at hi2
   simp only [Option.map_some, Option.getD_some, Array.all_eq_true'] at hi2
   simp only [preds, List.mem_map, List.mem_filter] at hp
   obtain ⟨e, ⟨he, hbi⟩, rfl⟩ := hp
   have := hi2.2 e (by simpa using he)
   rw [hbi] at this
   simp only [Bool.not_true, Bool.false_or] at this
   have hlt : e.on < ops.size := by
    have := hO i o (by rw [Array.getElem?_toList]; exact ho) e.on (by simp only [preds, List.mem_map, List.mem_filter]; exact ⟨e, ⟨he, hbi⟩, rfl⟩)
    omega
   rw [hlf _ hlt] at this
   exact (hl _ hlt).1 this
theorem linearise_sched {ops : Array Oper} (hO : Down ops.toList) (t : Nat) : Sched ops.toList [] (Region.linearise .any ops t) := by
 obtain ⟨r, h1, h2⟩ := go_sched hO ops.size t (Array.replicate ops.size false) [] (by simp) (by intro i hi; simp [Array.getD, hi]) (by simp) List.nodup_nil (by simp)
 unfold Region.linearise
 rw [h1]; simpa using h2
end Go.Tm
/- The engine, nineteenth part: a region that draws its order: whatever order, one outcome. -/
namespace Go.Tm
def isE (P : Program) (o : Oper) : Bool :=
 match kindOf P o.op with
 | .eff => true
 | .alloc => true
 | _ => false
def isR (P : Program) (o : Oper) : Bool :=
 match kindOf P o.op with
 | .read => true
 | _ => false
def tmpOf : Operand → Option Nat
 | .tmp t => some t
 | _ => none
def rdTmps (O : List Oper) (o : Oper) : List Nat :=
 (o.op.operands.toList.filterMap tmpOf) ++
  (match o.guard with
   | some (j, _) => match (O[j]?).bind (·.dst) with
     | some d => [d]
     | none => []
   | none => [])
def plainStore (o : Oper) : Option (TypeId × Operand × Operand) :=
 match o.guard, o.op with
 | none, .store t a v => some (t, a, v)
 | _, _ => none
structure Draw (E : Env) (call : Caller) (O : List Oper) (sp : Option (Nat × Nat)) (c : Nat → St) : Prop where
 run : ∀ (i : Nat) (o : Oper), O[i]? = some o → aop1 E call O o (c i) = some (c (i + 1))
 down : Down O
 dsts : ∀ (i j : Nat) (o o' : Oper) (d : Nat), O[i]? = some o → O[j]? = some o' → o.dst = some d → o'.dst = some d → i = j
 rds : ∀ (i : Nat) (o : Oper) (t j : Nat) (o' : Oper), O[i]? = some o → t ∈ rdTmps O o → O[j]? = some o' → o'.dst = some t → bef (masks O []) j i = true ∨ bef (masks O []) i j = true ∨ i = j
 effs : ∀ (a b : Nat) (o o' : Oper), a < b → O[a]? = some o → O[b]? = some o' → isE E.P o = true → isE E.P o' = true → bef (masks O []) a b = true ∨ sp = some (a, b)
 stable : ∀ (i e : Nat) (o o' : Oper), O[i]? = some o → O[e]? = some o' → isR E.P o = true → isE E.P o' = true → bef (masks O []) i e = true ∨ bef (masks O []) e i = true ∨
  (awanted O (c i).tm o = true → aread E (c e).h (opd (c i).tm) o.op = aread E (c i).h (opd (c i).tm) o.op ∧ aread E (c (e + 1)).h (opd (c i).tm) o.op = aread E (c i).h (opd (c i).tm) o.op)
 sp1 : ∀ (y z : Nat), sp = some (y, z) → y < z ∧ ∃ (oy oz : Oper), O[y]? = some oy ∧ O[z]? = some oz ∧ isE E.P oy = true ∧ isE E.P oz = true ∧ ∃ ty ay vy tz az vz, plainStore oy = some (ty, ay, vy) ∧ plainStore oz = some (tz, az, vz) ∧
  ∀ a b, opd (c y).tm ay = .pointer (some a) → opd (c z).tm az = .pointer (some b) → apartW a (vcells (opd (c y).tm vy)).length b (vcells (opd (c z).tm vz)).length = true
 sp2 : ∀ (y z : Nat), sp = some (y, z) → ∀ (e : Nat) (o : Oper), O[e]? = some o → isE E.P o = true → e = y ∨ e = z ∨ (bef (masks O []) e y = true ∧ bef (masks O []) e z = true)
 sp3 : ∀ (y z : Nat), sp = some (y, z) → ∀ (i : Nat) (o : Oper), O[i]? = some o → isR E.P o = true → (bef (masks O []) i y = true ∧ bef (masks O []) i z = true) ∨ (bef (masks O []) y i = true ∧ bef (masks O []) z i = true)
def Fr (O : List Oper) (c : Nat → St) (D : List Nat) (tm : Tr Value) : Prop :=
 ∀ t, (∀ j o, j ∈ D → O[j]? = some o → o.dst = some t → fget tm t = fget (c (j + 1)).tm t) ∧ ((∀ j o, j ∈ D → O[j]? = some o → o.dst ≠ some t) → fget tm t = fget (c 0).tm t)
section
variable {E : Env} {call : Caller} {O : List Oper} {sp : Option (Nat × Nat)} {c : Nat → St}
theorem aop1_tm {o : Oper} {s s' : St} (h : aop1 E call O o s = some s') : ∃ v, s'.tm = aput s.tm o.dst v ∧ ((awanted O s.tm o = true ∧ aop E call o.op s = some (v, s'.h)) ∨ (awanted O s.tm o = false ∧ v = undef ∧ s'.h = s.h)) := by
 unfold aop1 at h
 split at h
 ·rename_i hw
  split at h
  ·rename_i v h' ha
   injection h with h; subst h
   exact ⟨v, rfl, .inl ⟨hw, ha⟩⟩
  ·cases h
 ·rename_i hw
  injection h with h; subst h
  exact ⟨undef, rfl, .inr ⟨by simpa using hw, rfl, rfl⟩⟩
theorem fget_aput (tm : Tr Value) (d : Option Nat) (v : Value) (t : Nat) : fget (aput tm d v) t = if d = some t then v else fget tm t := by
 cases d with
 | none => simp [aput]
 | some d => simp only [aput, fget_set]; by_cases e : d = t <;> simp [e]
theorem Draw.canon (W : Draw E call O sp c) : ∀ i, i ≤ O.length → Fr O c (List.range i) (c i).tm
 | 0, _ => fun t => ⟨fun j o hj => by simp at hj, fun _ => rfl⟩
 | i + 1, hi => by
   have ih := W.canon i (by omega)
   have ho : O[i]? = some O[i] := List.getElem?_eq_getElem (by omega)
   obtain ⟨v, hv, _⟩ := aop1_tm (W.run i _ ho)
   intro t
   rw [hv]
   constructor
   ·intro j o hj hjo hd
    rw [fget_aput]
    by_cases e : j = i
    ·subst e
     rw [ho] at hjo; injection hjo with hjo; subst hjo
     rw [hv, fget_aput]
    ·have hji : j < i := by simp at hj; omega
     have : ¬ (O[i].dst = some t) := fun h => e (W.dsts j i o _ t hjo ho hd h)
     rw [if_neg this]
     exact (ih t).1 j o (by simpa using hji) hjo hd
   ·intro hn
    rw [fget_aput, if_neg (hn i _ (by simp) ho)]
    exact (ih t).2 fun j o hj hjo => hn j o (by simp at hj ⊢; omega) hjo
theorem Draw.agree (W : Draw E call O sp c) {D : List Nat} (hD : Closed O D) {tm : Tr Value} (F : Fr O c D tm) {i : Nat} {o : Oper} (ho : O[i]? = some o) (hi : i ∉ D) (hr : ∀ o, O[i]? = some o → ∀ p, p ∈ preds o → p ∈ D) :
 ∀ t, t ∈ rdTmps O o → fget tm t = fget (c i).tm t := by
 intro t ht
 have hlen : i < O.length := (List.getElem?_eq_some_iff.1 ho).1
 have C := W.canon i (by omega)
 by_cases hx : ∃ (j : Nat) (o' : Oper), O[j]? = some o' ∧ o'.dst = some t
 ·obtain ⟨j, o', hj, hd⟩ := hx
  rcases W.rds i o t j o' ho ht hj hd with h | h | h
  ·have h1 := bef_ready hD hr h
   have h2 := bef_lt W.down i j h
   rw [(F t).1 j o' h1 hj hd, (C t).1 j o' (by simpa using h2) hj hd]
  ·have h1 : j ∉ D := fun hjD => hi (bef_done hD j i hjD h)
   have h2 := bef_lt W.down j i h
   rw [(F t).2 (fun k ok hk hok hdk => by have := W.dsts j k o' ok t hj hok hd hdk; subst this; exact h1 hk),
    (C t).2 (fun k ok hk hok hdk => by have := W.dsts j k o' ok t hj hok hd hdk; subst this; simp at hk; omega)]
  ·subst h
   rw [(F t).2 (fun k ok hk hok hdk => by have := W.dsts i k o' ok t hj hok hd hdk; subst this; exact hi hk),
    (C t).2 (fun k ok hk hok hdk => by have := W.dsts i k o' ok t hj hok hd hdk; subst this; simp at hk)]
 ·have hn : ∀ (D' : List Nat) (j : Nat) (o' : Oper), j ∈ D' → O[j]? = some o' → o'.dst ≠ some t := fun _ j o' _ hj hd => hx ⟨j, o', hj, hd⟩
  rw [(F t).2 (hn D), (C t).2 (hn _)]
theorem opd_agree {o : Oper} {tm tm' : Tr Value} (h : ∀ t, t ∈ rdTmps O o → fget tm t = fget tm' t) : ∀ x, x ∈ o.op.operands → opd tm x = opd tm' x := by
 intro x hx
 cases x with
 | tmp t =>
   refine h t ?_
   unfold rdTmps
   refine List.mem_append_left _ ?_
   rw [List.mem_filterMap]
   exact ⟨.tmp t, by simpa using hx, rfl⟩
 | _ => rfl
theorem awanted_agree {o : Oper} {tm tm' : Tr Value} (h : ∀ t, t ∈ rdTmps O o → fget tm t = fget tm' t) : awanted O tm o = awanted O tm' o := by
 unfold awanted
 cases hg : o.guard with
 | none => rfl
 | some g =>
   obtain ⟨j, want⟩ := g
   simp only
   cases hd : (O[j]?).bind (·.dst) with
   | none => rfl
   | some d =>
     simp only
     rw [h d (by unfold rdTmps; rw [hg]; simp only [hd]; simp)]
theorem quiet_h {o : Oper} {s s' : St} (hE : isE E.P o = false) (h : aop1 E call O o s = some s') : s'.h = s.h := by
 obtain ⟨v, _, h | h⟩ := aop1_tm h
 ·have ha := h.2
  unfold aop at ha
  unfold isE at hE
  cases hk : kindOf E.P o.op <;> simp only [hk] at ha hE
  ·cases hp : apure E.P (opd s.tm) o.op <;> simp [hp] at ha; exact ha.2.symm
  ·cases hp : aread E s.h (opd s.tm) o.op <;> simp [hp] at ha; exact ha.2.symm
  ·cases hE
  ·cases hE
 ·exact h.2.2
theorem Draw.flat (W : Draw E call O sp c) : ∀ (k a : Nat), a + k ≤ O.length → (∀ e o, a ≤ e → e < a + k → O[e]? = some o → isE E.P o = false) → (c (a + k)).h = (c a).h
 | 0, a, _, _ => rfl
 | k + 1, a, hl, hn => by
   have ih := W.flat k a (by omega) fun e o h1 h2 => hn e o h1 (by omega)
   have ho : O[a + k]? = some O[a + k] := List.getElem?_eq_getElem (by omega)
   rw [← ih]
   exact quiet_h (hn (a + k) _ (by omega) (by omega) ho) (W.run (a + k) _ ho)
theorem Draw.flat' (W : Draw E call O sp c) {a b : Nat} (hab : a ≤ b) (hb : b ≤ O.length) (hn : ∀ e o, a ≤ e → e < b → O[e]? = some o → isE E.P o = false) : (c b).h = (c a).h := by
 obtain ⟨k, rfl⟩ : ∃ k, b = a + k := ⟨b - a, by omega⟩
 exact W.flat k a hb hn
def HB (E : Env) (O : List Oper) (c : Nat → St) (D : List Nat) (h : Heap) : Prop :=
 (∀ e o, O[e]? = some o → isE E.P o = true → e ∉ D → (∀ e' o', e' < e → O[e']? = some o' → isE E.P o' = true → e' ∈ D) → h = (c e).h) ∧
 ((∀ e o, O[e]? = some o → isE E.P o = true → e ∈ D) → h = (c O.length).h)
theorem Draw.span (W : Draw E call O sp c) {D : List Nat} (hD : Closed O D) {i : Nat} {o : Oper} (ho : O[i]? = some o) (hR : isR E.P o = true) (hi : i ∉ D) (hw : awanted O (c i).tm o = true) :
 ∀ k, i + k ≤ O.length → (∀ e o', i ≤ e → e < i + k → O[e]? = some o' → isE E.P o' = true → e ∈ D) → aread E (c (i + k)).h (opd (c i).tm) o.op = aread E (c i).h (opd (c i).tm) o.op
 | 0, _, _ => rfl
 | k + 1, hl, hn => by
   have ih := W.span hD ho hR hi hw k (by omega) fun e o' h1 h2 => hn e o' h1 (by omega)
   have hk : O[i + k]? = some O[i + k] := List.getElem?_eq_getElem (by omega)
   cases hE : isE E.P O[i + k] with
   | false =>
     have := quiet_h hE (W.run (i + k) _ hk)
     rw [show i + (k + 1) = i + k + 1 by omega, this]; exact ih
   | true =>
     have hd := hn (i + k) _ (by omega) (by omega) hk hE
     rcases W.stable i (i + k) o _ ho hk hR hE with h | h | h
     ·exact absurd (bef_done hD _ _ hd h) hi
     ·have := bef_lt W.down _ _ h; omega
     ·rw [show i + (k + 1) = i + k + 1 by omega]; exact (h hw).2
theorem Draw.read_at (W : Draw E call O sp c) {D : List Nat} (hD : Closed O D) {h : Heap} (hb : HB E O c D h) {i : Nat} {o : Oper} (ho : O[i]? = some o) (hR : isR E.P o = true) (hi : i ∉ D)
 (hr : ∀ o, O[i]? = some o → ∀ p, p ∈ preds o → p ∈ D) (hw : awanted O (c i).tm o = true) : aread E h (opd (c i).tm) o.op = aread E (c i).h (opd (c i).tm) o.op := by
 have hlen : i < O.length := (List.getElem?_eq_some_iff.1 ho).1
 by_cases hx : ∃ (e : Nat) (o' : Oper), O[e]? = some o' ∧ isE E.P o' = true ∧ e ∉ D
 ·obtain ⟨e0, he0⟩ := hx
  obtain ⟨e, _, ⟨o', he, hE, heD⟩, hmin⟩ := least_not (fun e => ∃ o', O[e]? = some o' ∧ isE E.P o' = true ∧ e ∉ D) e0 he0
  have hfirst : ∀ e' o', e' < e → O[e']? = some o' → isE E.P o' = true → e' ∈ D := fun e' o' hlt h1 h2 => Classical.byContradiction fun h3 => hmin e' hlt ⟨o', h1, h2, h3⟩
  rw [hb.1 e o' he hE heD hfirst]
  rcases W.stable i e o o' ho he hR hE with h | h | h
  ·have hlt := bef_lt W.down _ _ h
   have hel : e < O.length := (List.getElem?_eq_some_iff.1 he).1
   have := W.span hD ho hR hi hw (e - i) (by omega) fun e' o'' h1 h2 h3 h4 => hfirst e' o'' (by omega) h3 h4
   rwa [show i + (e - i) = e by omega] at this
  ·exact absurd (bef_ready hD hr h) heD
  ·exact (h hw).1
 ·have hall : ∀ e o', O[e]? = some o' → isE E.P o' = true → e ∈ D := fun e o' h1 h2 => Classical.byContradiction fun h3 => hx ⟨e, o', h1, h2, h3⟩
  rw [hb.2 hall]
  have := W.span hD ho hR hi hw (O.length - i) (by omega) fun e' o'' h1 h2 h3 h4 => hall e' o'' h3 h4
  rwa [show i + (O.length - i) = O.length by omega] at this
theorem HB.quiet {D : List Nat} {h : Heap} (hb : HB E O c D h) {i : Nat} {o : Oper} (ho : O[i]? = some o) (hE : isE E.P o = false) : HB E O c (i :: D) h := by
 have hne : ∀ e o', O[e]? = some o' → isE E.P o' = true → e ≠ i := by
  intro e o' h1 h2 h3
  subst h3; rw [ho] at h1; injection h1 with h1; subst h1; rw [hE] at h2; cases h2
 constructor
 ·intro e o' he hE' heD hf
  refine hb.1 e o' he hE' (fun hh => heD (List.mem_cons_of_mem _ hh)) fun e' o'' hlt h1 h2 => ?_
  have := hf e' o'' hlt h1 h2
  simp only [List.mem_cons] at this
  rcases this with h3 | h3
  ·exact absurd h3 (hne e' o'' h1 h2)
  ·exact h3
 ·intro hall
  refine hb.2 fun e o' h1 h2 => ?_
  have := hall e o' h1 h2
  simp only [List.mem_cons] at this
  rcases this with h3 | h3
  ·exact absurd h3 (hne e o' h1 h2)
  ·exact h3
theorem Draw.eff_step (W : Draw E call O sp c) {D : List Nat} {h : Heap} (hb : HB E O c D h) {i : Nat} {o : Oper} (ho : O[i]? = some o) (hE : isE E.P o = true) (hi : i ∉ D)
 (hlo : ∀ e o', e < i → O[e]? = some o' → isE E.P o' = true → e ∈ D) (hhi : ∀ e o', i < e → O[e]? = some o' → isE E.P o' = true → e ∉ D) : h = (c i).h ∧ HB E O c (i :: D) (c (i + 1)).h := by
 have hlen : i < O.length := (List.getElem?_eq_some_iff.1 ho).1
 refine ⟨hb.1 i o ho hE hi hlo, ?_, ?_⟩
 ·intro e o' he hE' heD hf
  have hel : e < O.length := (List.getElem?_eq_some_iff.1 he).1
  simp only [List.mem_cons, not_or] at heD
  have hie : i < e := by
   rcases Nat.lt_trichotomy e i with h1 | h1 | h1
   ·exact absurd (hlo e o' h1 he hE') heD.2
   ·exact absurd h1 heD.1
   ·exact h1
  refine (W.flat' (by omega) (by omega) ?_).symm
  intro e' o'' h1 h2 h3
  cases h4 : isE E.P o'' with
  | false => rfl
  | true =>
    have := hf e' o'' h2 h3 h4
    simp only [List.mem_cons] at this
    rcases this with h5 | h5
    ·omega
    ·exact absurd h5 (hhi e' o'' (by omega) h3 h4)
 ·intro hall
  refine (W.flat' (by omega) (Nat.le_refl _) ?_).symm
  intro e' o'' h1 h2 h3
  cases h4 : isE E.P o'' with
  | false => rfl
  | true =>
    have := hall e' o'' h3 h4
    simp only [List.mem_cons] at this
    rcases this with h5 | h5
    ·omega
    ·exact absurd h5 (hhi e' o'' (by omega) h3 h4)
end
end Go.Tm
/- The engine, twentieth part: every schedule of a region comes to what the text's order comes to. -/
namespace Go.Tm
section
variable {E : Env} {call : Caller} {O : List Oper} {sp : Option (Nat × Nat)} {c : Nat → St}
def HI (E : Env) (O : List Oper) (sp : Option (Nat × Nat)) (c : Nat → St) (D : List Nat) (h : Heap) : Prop :=
 match sp with
 | none => HB E O c D h
 | some (y, z) => (z ∉ D → HB E O c D h) ∧
  (z ∈ D → y ∉ D → ∀ oz tz az vz a, O[z]? = some oz → plainStore oz = some (tz, az, vz) → opd (c z).tm az = .pointer (some a) → awrite (c y).h a (vcells (opd (c z).tm vz)) = some h) ∧
  (z ∈ D → y ∈ D → Same h (c O.length).h)
theorem aop_store {t : TypeId} {a v : Operand} {s : St} {r : Value × Heap} (h : aop E call (.store t a v) s = some r) : ∃ ad, opd s.tm a = .pointer (some ad) ∧ asz E.P t = some (vcells (opd s.tm v)).length ∧ awrite s.h ad (vcells (opd s.tm v)) = some r.2 ∧ r.1 = undef := by
 simp only [aop, kindOf, aeff] at h
 cases hs : astore E s.h t (opd s.tm a) (opd s.tm v) with
 | none => simp [hs] at h
 | some h' =>
   simp [hs] at h; subst h
   unfold astore at hs
   split at hs
   ·rename_i ad ha
    split at hs
    ·rename_i hz; exact ⟨ad, ha, hz, hs, rfl⟩
    ·cases hs
   ·cases hs
theorem store_aop {t : TypeId} {a v : Operand} {s : St} {ad : Addr} {h' : Heap} (h1 : opd s.tm a = .pointer (some ad)) (h2 : asz E.P t = some (vcells (opd s.tm v)).length) (h3 : awrite s.h ad (vcells (opd s.tm v)) = some h') :
 aop E call (.store t a v) s = some (undef, h') := by
 simp only [aop, kindOf, aeff, astore, h1, h2, if_true, h3, Option.map_some]
theorem plain_store {o : Oper} {t : TypeId} {a v : Operand} (h : plainStore o = some (t, a, v)) : o.guard = none ∧ o.op = .store t a v := by
 unfold plainStore at h
 split at h
 ·rename_i hg ho
  simp only [Option.some.injEq, Prod.mk.injEq] at h
  obtain ⟨rfl, rfl, rfl⟩ := h
  exact ⟨hg, ho⟩
 ·cases h
theorem same_acells {h h' : Heap} (s : Same h h') (a : Addr) (n : Nat) : acells E h a n = acells E h' a n := by
 simp only [acells, s.2]
theorem same_aread {h h' : Heap} (s : Same h h') {ev : Operand → Value} {op : Op} : aread E h ev op = aread E h' ev op := by
 cases op with
 | load t x => simp only [aread, aload, same_acells s]
 | lookup t x i ok => simp only [aread, alookup, ament, s.2]
 | convert a b x => simp only [aread, same_acells s]
 | _ => rfl
theorem Fr.step {D : List Nat} {tm : Tr Value} (W : Draw E call O sp c) (F : Fr O c D tm) {i : Nat} {o : Oper} (ho : O[i]? = some o) (hi : i ∉ D) {v : Value} (hv : (c (i + 1)).tm = aput (c i).tm o.dst v) : Fr O c (i :: D) (aput tm o.dst v) := by
 intro t
 constructor
 ·intro j oj hj hoj hd
  rw [fget_aput]
  by_cases e : j = i
  ·subst e
   rw [ho] at hoj; injection hoj with hoj; subst hoj
   rw [hv, fget_aput, if_pos hd, if_pos hd]
  ·have hjD : j ∈ D := by simp only [List.mem_cons] at hj; exact hj.resolve_left e
   rw [if_neg (fun h => e (W.dsts j i oj o t hoj ho hd h))]
   exact (F t).1 j oj hjD hoj hd
 ·intro hn
  rw [fget_aput, if_neg (hn i o (by simp) ho)]
  exact (F t).2 fun j oj hj hoj => hn j oj (List.mem_cons_of_mem _ hj) hoj
theorem quiet_op {o : Oper} (hE : isE E.P o = false) {tm : Tr Value} {h : Heap} {s : St} {v : Value} (hag : ∀ x, x ∈ o.op.operands → opd tm x = opd s.tm x) (ha : aop E call o.op s = some (v, s.h)) (hr : isR E.P o = true → aread E h (opd s.tm) o.op = aread E s.h (opd s.tm) o.op) :
 aop E call o.op ⟨tm, h⟩ = some (v, h) := by
 unfold aop at ha ⊢
 unfold isE at hE
 unfold isR at hr
 cases hk : kindOf E.P o.op <;> simp only [hk] at ha hE hr ⊢
 ·cases hp : apure E.P (opd s.tm) o.op with
  | none => simp [hp] at ha
  | some u => simp [hp] at ha; rw [apure_congr hag, hp]; simp [ha]
 ·cases hp : aread E s.h (opd s.tm) o.op with
  | none => simp [hp] at ha
  | some u => simp [hp] at ha; rw [aread_congr hag, hr trivial, hp]; simp [ha]
 ·cases hE
 ·cases hE
theorem Draw.step (W : Draw E call O sp c) {D : List Nat} (hD : Closed O D) {tm : Tr Value} {h : Heap} (F : Fr O c D tm) (hI : HI E O sp c D h) {i : Nat} (hlt : i < O.length) (hi : i ∉ D)
 (hr : ∀ o, O[i]? = some o → ∀ p, p ∈ preds o → p ∈ D) : ∃ o tm' h', O[i]? = some o ∧ aop1 E call O o ⟨tm, h⟩ = some ⟨tm', h'⟩ ∧ Fr O c (i :: D) tm' ∧ HI E O sp c (i :: D) h' := by
 have ho : O[i]? = some O[i] := List.getElem?_eq_getElem hlt
 generalize O[i] = o at ho
 have hag := W.agree hD F ho hi hr
 have hopd := opd_agree hag
 have hwa := awanted_agree hag
 obtain ⟨v, hv, hcase⟩ := aop1_tm (W.run i o ho)
 have F' := F.step W ho hi hv
 refine ⟨o, aput tm o.dst v, ?_⟩
 cases hE : isE E.P o with
 | false =>
   have hq := quiet_h hE (W.run i o ho)
   refine ⟨h, ho, ?_, F', ?_⟩
   ·rcases hcase with ⟨hw, ha⟩ | ⟨hw, rfl, _⟩
    ·rw [hq] at ha
     have hread : isR E.P o = true → aread E h (opd (c i).tm) o.op = aread E (c i).h (opd (c i).tm) o.op := by
      intro hR
      cases hsp : sp with
      | none =>
        unfold HI at hI; rw [hsp] at hI
        exact W.read_at hD hI ho hR hi hr hw
      | some yz =>
        obtain ⟨y, z⟩ := yz
        have hI' := hI; unfold HI at hI'; rw [hsp] at hI'
        by_cases hz : z ∈ D
        ·rcases W.sp3 y z hsp i o ho hR with ⟨_, h2⟩ | ⟨h1, h2⟩
         ·exact absurd (bef_done hD _ _ hz h2) hi
         ·have hy := bef_ready hD hr h1
          have hsame := hI'.2.2 hz hy
          rw [same_aread hsame]
          have hzi := bef_lt W.down _ _ h2
          have hyi := bef_lt W.down _ _ h1
          have := W.flat' (a := i) (b := O.length) (by omega) (Nat.le_refl _) (by
           intro e oe h3 h4 h5
           cases h6 : isE E.P oe with
           | false => rfl
           | true =>
             rcases W.sp2 y z hsp e oe h5 h6 with rfl | rfl | ⟨h7, h8⟩
             ·omega
             ·omega
             ·have := bef_lt W.down _ _ h8; omega)
          rw [this]
        ·exact W.read_at hD (hI'.1 hz) ho hR hi hr hw
     have := quiet_op (call := call) hE hopd ha hread
     unfold aop1
     rw [hwa, hw, if_pos rfl, this]
    ·unfold aop1
     rw [hwa, hw]; simp
   ·unfold HI at hI ⊢
    cases hsp : sp with
    | none => rw [hsp] at hI; exact hI.quiet ho hE
    | some yz =>
      obtain ⟨y, z⟩ := yz
      rw [hsp] at hI
      obtain ⟨_, oy, oz, hy, hz, hEy, hEz, _⟩ := W.sp1 y z hsp
      have ny : y ≠ i := fun e => by subst e; rw [ho] at hy; injection hy with hy; subst hy; rw [hE] at hEy; cases hEy
      have nz : z ≠ i := fun e => by subst e; rw [ho] at hz; injection hz with hz; subst hz; rw [hE] at hEz; cases hEz
      simp only [List.mem_cons, ny, nz, false_or]
      exact ⟨fun hh => (hI.1 hh).quiet ho hE, hI.2.1, hI.2.2⟩
 | true =>
   have whole : h = (c i).h → HI E O sp c (i :: D) (c (i + 1)).h → ∃ h', O[i]? = some o ∧ aop1 E call O o ⟨tm, h⟩ = some ⟨aput tm o.dst v, h'⟩ ∧ Fr O c (i :: D) (aput tm o.dst v) ∧ HI E O sp c (i :: D) h' := by
    intro hh hI2
    subst hh
    refine ⟨(c (i + 1)).h, ho, ?_, F', hI2⟩
    unfold aop1
    rcases hcase with ⟨hw, ha⟩ | ⟨hw, rfl, he⟩
    ·rw [hwa, hw, if_pos rfl, aop_congr hopd, ha]
    ·rw [hwa, hw, he]; simp
   cases hsp : sp with
   | none =>
     unfold HI at hI; rw [hsp] at hI
     have := W.eff_step hI ho hE hi (by
      intro e o' h1 h2 h3
      rcases W.effs e i o' o h1 h2 ho h3 hE with h4 | h4
      ·exact bef_ready hD hr h4
      ·rw [hsp] at h4; cases h4) (by
      intro e o' h1 h2 h3 h5
      rcases W.effs i e o o' h1 ho h2 hE h3 with h4 | h4
      ·exact hi (bef_done hD _ _ h5 h4)
      ·rw [hsp] at h4; cases h4)
     exact hsp ▸ whole this.1 (by unfold HI; rw [hsp]; exact this.2)
   | some yz =>
     obtain ⟨y, z⟩ := yz
     rw [← hsp]
     have hI0 := hI
     unfold HI at hI; rw [hsp] at hI
     obtain ⟨hyz, oy, oz, hy, hz, hEy, hEz, ty, ay, vy, tz, az, vz, hpy, hpz, hap⟩ := W.sp1 y z hsp
     obtain ⟨hgy, hoy⟩ := plain_store hpy
     obtain ⟨hgz, hoz⟩ := plain_store hpz
     have hlz : z < O.length := (List.getElem?_eq_some_iff.1 hz).1
     have others : ∀ e o', O[e]? = some o' → isE E.P o' = true → e ≠ y → e ≠ z → bef (masks O []) e y = true ∧ bef (masks O []) e z = true := by
      intro e o' h1 h2 h3 h4
      rcases W.sp2 y z hsp e o' h1 h2 with h5 | h5 | h5
      ·exact absurd h5 h3
      ·exact absurd h5 h4
      ·exact h5
     have hyz_h : (c z).h = (c (y + 1)).h := W.flat' (by omega) (by omega) (by
      intro e oe h3 h4 h5
      cases h6 : isE E.P oe with
      | false => rfl
      | true =>
        have := others e oe h5 h6 (by omega) (by omega)
        have := bef_lt W.down _ _ this.1; omega)
     have hzn_h : (c O.length).h = (c (z + 1)).h := W.flat' (by omega) (Nat.le_refl _) (by
      intro e oe h3 h4 h5
      cases h6 : isE E.P oe with
      | false => rfl
      | true =>
        have := others e oe h5 h6 (by omega) (by omega)
        have := bef_lt W.down _ _ this.2; omega)
     have cy : ∃ ad, opd (c y).tm ay = .pointer (some ad) ∧ asz E.P ty = some (vcells (opd (c y).tm vy)).length ∧ awrite (c y).h ad (vcells (opd (c y).tm vy)) = some (c (y + 1)).h ∧ (c (y + 1)).tm = aput (c y).tm oy.dst undef := by
      obtain ⟨u, hu, hc | hc⟩ := aop1_tm (W.run y oy hy)
      ·rw [hoy] at hc
       obtain ⟨ad, h1, h2, h3, h4⟩ := aop_store hc.2
       simp only at h4; subst h4
       exact ⟨ad, h1, h2, h3, hu⟩
      ·have : awanted O (c y).tm oy = true := by unfold awanted; rw [hgy]
       rw [this] at hc; cases hc.1
     have cz : ∃ ad, opd (c z).tm az = .pointer (some ad) ∧ asz E.P tz = some (vcells (opd (c z).tm vz)).length ∧ awrite (c z).h ad (vcells (opd (c z).tm vz)) = some (c (z + 1)).h ∧ (c (z + 1)).tm = aput (c z).tm oz.dst undef := by
      obtain ⟨u, hu, hc | hc⟩ := aop1_tm (W.run z oz hz)
      ·rw [hoz] at hc
       obtain ⟨ad, h1, h2, h3, h4⟩ := aop_store hc.2
       simp only at h4; subst h4
       exact ⟨ad, h1, h2, h3, hu⟩
      ·have : awanted O (c z).tm oz = true := by unfold awanted; rw [hgz]
       rw [this] at hc; cases hc.1
     obtain ⟨ady, y1, y2, y3, y4⟩ := cy
     obtain ⟨adz, z1, z2, z3, z4⟩ := cz
     rw [hyz_h] at z3
     obtain ⟨h3, h4, e1, e2, e3⟩ := awrite_comm y3 z3 (hap _ _ y1 z1)
     by_cases hzD : z ∈ D
     ·have hiy : i = y := by
       apply Classical.byContradiction
       intro hne
       by_cases hiz : i = z
       ·exact hi (hiz ▸ hzD)
       ·exact hi (bef_done hD _ _ hzD (others i o ho hE hne hiz).2)
      subst hiy
      rw [ho] at hy; injection hy with hy; subst hy
      have hh := hI.2.1 hzD hi oz tz az vz adz hz hpz z1
      rw [e1] at hh; injection hh with hh; subst hh
      have hv' : v = undef := by
       rcases hcase with ⟨_, ha⟩ | ⟨_, h2, _⟩
       ·rw [hoy] at ha; exact (aop_store ha).choose_spec.2.2.2
       ·exact h2
      refine ⟨h4, ho, ?_, F', ?_⟩
      ·have hw : awanted O tm o = true := by unfold awanted; rw [hgy]
       have hop : aop E call o.op ⟨tm, h3⟩ = some (undef, h4) := by
        rw [aop_congr (tm' := (c i).tm) hopd, hoy]
        exact store_aop y1 y2 e2
       unfold aop1
       rw [if_pos hw, hop, hv']
      ·unfold HI; rw [hsp]
       refine ⟨fun hh => absurd (List.mem_cons_of_mem _ hzD) hh, fun _ hh => absurd (by simp) hh, fun _ _ => ?_⟩
       rw [hzn_h]; exact e3
     ·have hB := hI.1 hzD
      by_cases hiz : i = z
      ·subst hiz
       by_cases hyD : y ∈ D
       ·have := W.eff_step hB ho hE hi (by
         intro e o' h1 h2 h3
         by_cases hey : e = y
         ·exact hey ▸ hyD
         ·exact bef_ready hD hr (others e o' h2 h3 hey (by omega)).2) (by
         intro e o' h1 h2 h3 h5
         have := (others e o' h2 h3 (by omega) (by omega)).2
         have := bef_lt W.down _ _ this; omega)
        refine whole this.1 ?_
        unfold HI; rw [hsp]
        refine ⟨fun hh => absurd (by simp) hh, fun _ hh => absurd (List.mem_cons_of_mem _ hyD) hh, fun _ _ => ?_⟩
        rw [hzn_h]; exact Same.refl _
       ·rw [ho] at hz; injection hz with hz; subst hz
        have hh : h = (c y).h := hB.1 y oy hy hEy hyD (by
         intro e o' h1 h2 h3
         exact bef_ready hD hr (others e o' h2 h3 (by omega) (by omega)).2)
        subst hh
        have hv' : v = undef := by
         rcases hcase with ⟨_, ha⟩ | ⟨_, h2, _⟩
         ·rw [hoz] at ha; exact (aop_store ha).choose_spec.2.2.2
         ·exact h2
        refine ⟨h3, ho, ?_, F', ?_⟩
        ·have hw : awanted O tm o = true := by unfold awanted; rw [hgz]
         have hop : aop E call o.op ⟨tm, (c y).h⟩ = some (undef, h3) := by
          rw [aop_congr (tm' := (c i).tm) hopd, hoz]
          exact store_aop z1 z2 e1
         unfold aop1
         rw [if_pos hw, hop, hv']
        ·unfold HI; rw [hsp]
         refine ⟨fun hh => absurd (by simp) hh, fun _ _ => ?_, fun _ hh => ?_⟩
         ·intro oz' tz' az' vz' a' g1 g2 g3
          rw [ho] at g1; injection g1 with g1; subst g1
          rw [hpz] at g2
          simp only [Option.some.injEq, Prod.mk.injEq] at g2
          obtain ⟨rfl, rfl, rfl⟩ := g2
          rw [z1] at g3
          injection g3 with g3; injection g3 with g3; subst g3
          exact e1
         ·simp only [List.mem_cons] at hh
          rcases hh with hh | hh
          ·omega
          ·exact absurd hh hyD
      ·by_cases hiy : i = y
       ·subst hiy
        have := W.eff_step hB ho hE hi (by
         intro e o' h1 h2 h3
         exact bef_ready hD hr (others e o' h2 h3 (by omega) (by omega)).1) (by
         intro e o' h1 h2 h3 h5
         by_cases hez : e = z
         ·exact hzD (hez ▸ h5)
         ·have := (others e o' h2 h3 (by omega) hez).1
          have := bef_lt W.down _ _ this; omega)
        refine whole this.1 ?_
        unfold HI; rw [hsp]
        refine ⟨fun _ => this.2, fun hh => ?_, fun hh => ?_⟩
        ·simp only [List.mem_cons] at hh
         rcases hh with hh | hh
         ·omega
         ·exact absurd hh hzD
        ·simp only [List.mem_cons] at hh
         rcases hh with hh | hh
         ·omega
         ·exact absurd hh hzD
       ·have hbi := others i o ho hE hiy hiz
        have hyD : y ∉ D := fun hh => hi (bef_done hD _ _ hh hbi.1)
        have := W.eff_step hB ho hE hi (by
         intro e o' h1 h2 h3
         rcases W.effs e i o' o h1 h2 ho h3 hE with h4 | h4
         ·exact bef_ready hD hr h4
         ·rw [hsp] at h4; injection h4 with h4; injection h4 with _ h4; exact absurd h4.symm hiz) (by
         intro e o' h1 h2 h3 h5
         rcases W.effs i e o o' h1 ho h2 hE h3 with h4 | h4
         ·exact hi (bef_done hD _ _ h5 h4)
         ·rw [hsp] at h4; injection h4 with h4; injection h4 with h4 _; exact absurd h4.symm hiy)
        refine whole this.1 ?_
        unfold HI; rw [hsp]
        have nz : z ∉ i :: D := by simp only [List.mem_cons, not_or]; exact ⟨fun e => hiz e.symm, hzD⟩
        exact ⟨fun _ => this.2, fun hh => absurd hh nz, fun hh => absurd hh nz⟩
end
end Go.Tm
namespace Go.Tm
def trace (E : Env) (call : Caller) (O : List Oper) : List Oper → St → Option (List St)
 | [], s => some [s]
 | o :: l, s => match aop1 E call O o s with
   | some s' => (trace E call O l s').map (s :: ·)
   | none => none
def nodupB : List Nat → Bool
 | [] => true
 | x :: l => !l.contains x && nodupB l
def lastTwo : List (Oper × Nat) → Option (Nat × Nat)
 | [] => none
 | [_] => none
 | [x, y] => some (x.2, y.2)
 | _ :: l => lastTwo l
def spOf (P : Program) (O : List Oper) (M : List Nat) : Option (Nat × Nat) :=
 match lastTwo (O.zipIdx.filter fun x => isE P x.1) with
 | some (y, z) => if bef M y z then none else some (y, z)
 | none => none
def dstat (P : Program) (O : List Oper) (M : List Nat) (sp : Option (Nat × Nat)) : Bool :=
 (O.zipIdx.all fun x => (preds x.1).all fun p => decide (p < x.2)) &&
 nodupB (O.filterMap (·.dst)) &&
 (O.zipIdx.all fun x => (rdTmps O x.1).all fun t => O.zipIdx.all fun y => (match y.1.dst with
  | some d => !(d == t)
  | none => true) || (bef M y.2 x.2 || (bef M x.2 y.2 || x.2 == y.2))) &&
 ((O.zipIdx.filter fun x => isE P x.1).all fun x => (O.zipIdx.filter fun x => isE P x.1).all fun y => !decide (x.2 < y.2) || (bef M x.2 y.2 || decide (sp = some (x.2, y.2)))) &&
 (match sp with
  | none => true
  | some (y, z) => decide (y < z) &&
   ((O.zipIdx.filter fun x => isE P x.1).all fun x => x.2 == y || (x.2 == z || (bef M x.2 y && bef M x.2 z))) &&
   ((O.zipIdx.filter fun x => isR P x.1).all fun x => (bef M x.2 y && bef M x.2 z) || (bef M y x.2 && bef M z x.2)) &&
   (match O[y]?, O[z]? with
    | some oy, some oz => isE P oy && isE P oz && ((plainStore oy).isSome && (plainStore oz).isSome)
    | _, _ => false))
def sget (tr : List St) (s : St) (i : Nat) : St := tr.getD i s
def ostep (c : Nat → St) (oy oz : Oper) (y z : Nat) : Bool :=
 match plainStore oy, plainStore oz with
 | some (_, ay, vy), some (_, az, vz) =>
   match opd (c y).tm ay, opd (c z).tm az with
   | .pointer (some a), .pointer (some b) => apartW a (vcells (opd (c y).tm vy)).length b (vcells (opd (c z).tm vz)).length
   | _, _ => true
 | _, _ => false
def ddyn (E : Env) (O : List Oper) (M : List Nat) (sp : Option (Nat × Nat)) (c : Nat → St) : Bool :=
 ((O.zipIdx.filter fun x => isR E.P x.1).all fun x => (O.zipIdx.filter fun x => isE E.P x.1).all fun y =>
  bef M x.2 y.2 || (bef M y.2 x.2 || (!awanted O (c x.2).tm x.1 ||
   (match aread E (c x.2).h (opd (c x.2).tm) x.1.op, aread E (c y.2).h (opd (c x.2).tm) x.1.op, aread E (c (y.2 + 1)).h (opd (c x.2).tm) x.1.op with
    | some u, some v, some w => veq v u && veq w u
    | _, _, _ => false)))) &&
 (match sp with
  | none => true
  | some (y, z) => match O[y]?, O[z]? with
    | some oy, some oz => ostep c oy oz y z
    | _, _ => false)
def adraw (E : Env) (call : Caller) (O : List Oper) (s : St) : Option St :=
 match trace E call O O s with
 | some tr =>
   if dstat E.P O (masks O []) (spOf E.P O (masks O [])) = true ∧ ddyn E O (masks O []) (spOf E.P O (masks O [])) (sget tr s) = true then some (sget tr s O.length) else none
 | none => none
theorem trace_at {E : Env} {call : Caller} {O : List Oper} : ∀ (l : List Oper) (s : St) (tr : List St), trace E call O l s = some tr →
 tr[0]? = some s ∧ ∀ i o, l[i]? = some o → ∃ s1 s2, tr[i]? = some s1 ∧ tr[i + 1]? = some s2 ∧ aop1 E call O o s1 = some s2
 | [], s, tr, h => by
   simp [trace] at h; subst h
   exact ⟨rfl, fun i o hi => by simp at hi⟩
 | o :: l, s, tr, h => by
   simp only [trace] at h
   cases ha : aop1 E call O o s with
   | none => simp [ha] at h
   | some s' =>
     simp only [ha] at h
     cases ht : trace E call O l s' with
     | none => simp [ht] at h
     | some tr' =>
       simp [ht] at h; subst h
       obtain ⟨h0, h1⟩ := trace_at l s' tr' ht
       refine ⟨rfl, fun i o' hi => ?_⟩
       cases i with
       | zero =>
         simp at hi; subst hi
         exact ⟨s, s', rfl, by simpa using h0, ha⟩
       | succ i =>
         simp at hi
         obtain ⟨s1, s2, g1, g2, g3⟩ := h1 i o' hi
         exact ⟨s1, s2, by simpa using g1, by simpa using g2, g3⟩
theorem nodupB_at : ∀ (O : List Oper), nodupB (O.filterMap (·.dst)) = true → ∀ (i j : Nat) (o o' : Oper) (d : Nat), O[i]? = some o → O[j]? = some o' → o.dst = some d → o'.dst = some d → i = j
 | [], _, i, j, o, o', d, hi, _, _, _ => by simp at hi
 | u :: O, h, i, j, o, o', d, hi, hj, hd, hd' => by
   have htail : nodupB (O.filterMap (·.dst)) = true := by
    cases hu : u.dst with
    | none => simpa [List.filterMap_cons, hu] using h
    | some e => simp only [List.filterMap_cons, hu, nodupB, Bool.and_eq_true] at h; exact h.2
   have hno : ∀ (k : Nat) (ok : Oper), O[k]? = some ok → u.dst = some d → ok.dst = some d → False := by
    intro k ok hk hu hok
    simp only [List.filterMap_cons, hu, nodupB, Bool.and_eq_true, Bool.not_eq_true'] at h
    have : d ∈ O.filterMap (·.dst) := List.mem_filterMap.2 ⟨ok, List.mem_of_getElem? hk, hok⟩
    have h2 := h.1
    rw [List.contains_iff_mem.2 this] at h2
    cases h2
   cases i with
   | zero =>
     simp at hi; subst hi
     cases j with
     | zero => rfl
     | succ j => simp at hj; exact (hno j o' hj hd hd').elim
   | succ i =>
     simp at hi
     cases j with
     | zero => simp at hj; subst hj; exact (hno i o hi hd' hd).elim
     | succ j =>
       simp at hj
       rw [nodupB_at O htail i j o o' d hi hj hd hd']
theorem mem_ix {O : List Oper} {i : Nat} {o : Oper} (h : O[i]? = some o) : (o, i) ∈ O.zipIdx := by
 rw [List.mk_mem_zipIdx_iff_getElem?]; exact h
theorem draw_of {E : Env} {call : Caller} {O : List Oper} {s : St} {tr : List St} {sp : Option (Nat × Nat)} (ht : trace E call O O s = some tr) (h1 : dstat E.P O (masks O []) sp = true) (h2 : ddyn E O (masks O []) sp (sget tr s) = true) :
 Draw E call O sp (sget tr s) := by
 obtain ⟨t0, t1⟩ := trace_at O s tr ht
 simp only [dstat, Bool.and_eq_true, List.all_eq_true, List.mem_filter] at h1
 obtain ⟨⟨⟨⟨a1, a2⟩, a3⟩, a4⟩, a5⟩ := h1
 simp only [ddyn, Bool.and_eq_true, List.all_eq_true, List.mem_filter] at h2
 obtain ⟨b1, b2⟩ := h2
 refine ⟨?_, ?_, nodupB_at O a2, ?_, ?_, ?_, ?_, ?_, ?_⟩
 ·intro i o ho
  obtain ⟨s1, s2, g1, g2, g3⟩ := t1 i o ho
  have e1 : sget tr s i = s1 := by simp [sget, List.getD, g1]
  have e2 : sget tr s (i + 1) = s2 := by simp [sget, List.getD, g2]
  rw [e1, e2]; exact g3
 ·intro i o ho p hp
  have := a1 _ (mem_ix ho) p hp
  simpa using this
 ·intro i o t j o' ho ht' hj hd
  have := a3 _ (mem_ix ho) t ht' _ (mem_ix hj)
  simp only [hd, Bool.or_eq_true, Bool.not_eq_true', beq_eq_false_iff_ne, ne_eq, not_true_eq_false, false_or, beq_iff_eq] at this
  exact this
 ·intro a b o o' hab ha hb hE hE'
  have := a4 _ ⟨mem_ix ha, hE⟩ _ ⟨mem_ix hb, hE'⟩
  simp only [Bool.or_eq_true, Bool.not_eq_true', decide_eq_false_iff_not, decide_eq_true_eq] at this
  rcases this with h | h
  ·exact absurd hab h
  ·exact h
 ·intro i e o o' ho he hR hE
  have := b1 _ ⟨mem_ix ho, hR⟩ _ ⟨mem_ix he, hE⟩
  simp only [Bool.or_eq_true, Bool.not_eq_true'] at this
  rcases this with h | h | h | h
  ·exact .inl h
  ·exact .inr (.inl h)
  ·right; right; intro hw; rw [h] at hw; cases hw
  ·right; right; intro _
   split at h
   ·rename_i u v w g1 g2 g3
    simp only [Bool.and_eq_true] at h
    rw [g1, g2, g3, veq_eq _ _ h.1, veq_eq _ _ h.2]
    exact ⟨rfl, rfl⟩
   ·cases h
 ·intro y z hsp
  subst hsp
  simp only [Bool.and_eq_true, List.all_eq_true, decide_eq_true_eq, List.mem_filter] at a5
  obtain ⟨⟨⟨c1, _⟩, _⟩, c4⟩ := a5
  refine ⟨c1, ?_⟩
  simp only at b2
  split at c4
  ·rename_i oy oz gy gz
   simp only [gy, gz] at b2
   simp only [Bool.and_eq_true] at c4
   obtain ⟨⟨c5, c6⟩, c7, c8⟩ := c4
   refine ⟨oy, oz, gy, gz, c5, c6, ?_⟩
   obtain ⟨⟨ty, ay, vy⟩, e1⟩ := Option.isSome_iff_exists.1 c7
   obtain ⟨⟨tz, az, vz⟩, e2⟩ := Option.isSome_iff_exists.1 c8
   refine ⟨ty, ay, vy, tz, az, vz, e1, e2, ?_⟩
   intro a b ha hb
   simp only [ostep, e1, e2, ha, hb] at b2
   exact b2
  ·cases c4
 ·intro y z hsp e o ho hE
  subst hsp
  simp only [Bool.and_eq_true, List.all_eq_true, decide_eq_true_eq, List.mem_filter] at a5
  have := a5.1.1.2 _ ⟨mem_ix ho, hE⟩
  simp only [Bool.or_eq_true, Bool.and_eq_true, beq_iff_eq] at this
  exact this
 ·intro y z hsp i o ho hR
  subst hsp
  simp only [Bool.and_eq_true, List.all_eq_true, decide_eq_true_eq, List.mem_filter] at a5
  have := a5.1.2 _ ⟨mem_ix ho, hR⟩
  simp only [Bool.or_eq_true, Bool.and_eq_true] at this
  exact this
theorem closed_cons {O : List Oper} {D : List Nat} (hD : Closed O D) {i : Nat} (hr : ∀ o, O[i]? = some o → ∀ p, p ∈ preds o → p ∈ D) : Closed O (i :: D) := by
 intro j o hj ho p hp
 simp only [List.mem_cons] at hj
 rcases hj with rfl | hj
 ·exact List.mem_cons_of_mem _ (hr o ho p hp)
 ·exact List.mem_cons_of_mem _ (hD j o hj ho p hp)
theorem sched_run {E : Env} {call : Caller} {ops : Array Oper} {sp : Option (Nat × Nat)} {c : Nat → St} (W : Draw E call ops.toList sp c) : ∀ (r D : List Nat) (tm : Tr Value) (h : Heap), Sched ops.toList D r → Closed ops.toList D → Fr ops.toList c D tm → HI E ops.toList sp c D h →
 ∃ s'', aopsI E call ops r ⟨tm, h⟩ = some s'' ∧ (∀ t, fget s''.tm t = fget (c ops.toList.length).tm t) ∧ Same s''.h (c ops.toList.length).h
 | [], D, tm, h, hS, hD, F, hI => by
   refine ⟨_, rfl, fun t => ?_, ?_⟩
   ·have C := W.canon ops.toList.length (Nat.le_refl _)
    by_cases hx : ∃ (j : Nat) (o' : Oper), ops.toList[j]? = some o' ∧ o'.dst = some t
    ·obtain ⟨j, o', hj, hd⟩ := hx
     have hjl : j < ops.toList.length := (List.getElem?_eq_some_iff.1 hj).1
     rw [(F t).1 j o' (hS j hjl) hj hd, (C t).1 j o' (by simpa using hjl) hj hd]
    ·rw [(F t).2 (fun j o' _ hj hd => hx ⟨j, o', hj, hd⟩), (C t).2 (fun j o' _ hj hd => hx ⟨j, o', hj, hd⟩)]
   ·have hall : ∀ e o, ops.toList[e]? = some o → isE E.P o = true → e ∈ D := fun e o he _ => hS e (List.getElem?_eq_some_iff.1 he).1
    unfold HI at hI
    cases hsp : sp with
    | none => rw [hsp] at hI; rw [hI.2 hall]; exact Same.refl _
    | some yz =>
      obtain ⟨y, z⟩ := yz
      rw [hsp] at hI
      obtain ⟨_, oy, oz, hy, hz, _⟩ := W.sp1 y z hsp
      exact hI.2.2 (hS z (List.getElem?_eq_some_iff.1 hz).1) (hS y (List.getElem?_eq_some_iff.1 hy).1)
 | i :: r, D, tm, h, hS, hD, F, hI => by
   obtain ⟨hi, hni, hr, hS'⟩ := hS
   obtain ⟨o, tm', h', ho, ha, F', hI'⟩ := W.step hD F hI hi hni hr
   obtain ⟨s'', g1, g2⟩ := sched_run W r (i :: D) tm' h' hS' (closed_cons hD hr) F' hI'
   refine ⟨s'', ?_, g2⟩
   simp only [aopsI]
   rw [show ops[i]? = some o by rw [← Array.getElem?_toList]; exact ho]
   simp only [ha]; exact g1
theorem draw_sched {E : Env} {call : Caller} {ops : Array Oper} {s s' : St} (h : adraw E call ops.toList s = some s') (t : Nat) :
 ∃ s'', aopsI E call ops (Region.linearise .any ops t) s = some s'' ∧ (∀ t, fget s''.tm t = fget s'.tm t) ∧ Same s''.h s'.h := by
 unfold adraw at h
 split at h
 ·rename_i tr ht
  split at h
  ·rename_i hc
   injection h with h; subst h
   have W := draw_of ht hc.1 hc.2
   have e0 : sget tr s 0 = s := by
    have := (trace_at ops.toList s tr ht).1
    simp [sget, List.getD, this]
   refine sched_run W _ [] s.tm s.h (linearise_sched W.down t) (fun i o hi => by simp at hi) ?_ ?_
   ·intro t
    exact ⟨fun j o hj => by simp at hj, fun _ => by rw [e0]⟩
   ·have hB : HB E ops.toList (sget tr s) [] s.h := by
     constructor
     ·intro e o he hE _ hf
      have hl : e < ops.toList.length := (List.getElem?_eq_some_iff.1 he).1
      have := W.flat' (a := 0) (b := e) (Nat.zero_le _) (by omega) (by
       intro e' o' _ h2 h3
       cases h4 : isE E.P o' with
       | false => rfl
       | true => have := hf e' o' h2 h3 h4; simp at this)
      rw [this, e0]
     ·intro hall
      have := W.flat' (a := 0) (b := ops.toList.length) (Nat.zero_le _) (Nat.le_refl _) (by
       intro e' o' _ h2 h3
       cases h4 : isE E.P o' with
       | false => rfl
       | true => have := hall e' o' h3 h4; simp at this)
      rw [this, e0]
    unfold HI
    cases spOf E.P ops.toList (masks ops.toList []) with
    | none => exact hB
    | some yz => exact ⟨fun _ => hB, fun hh => by simp at hh, fun hh => by simp at hh⟩
  ·cases h
 ·cases h
end Go.Tm
