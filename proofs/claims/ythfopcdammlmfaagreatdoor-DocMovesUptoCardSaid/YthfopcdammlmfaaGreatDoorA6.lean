/- The engine, twenty-second part: code and calls, on both sides. -/
/- Merged by a program of ours: Eng23 Eng24 Eng25 Eng26 Eng27 Eng22. -/
import Derived.Test.YthfopcdammlmfaaGreatDoorA5
import Derived.Test.YthfopcdammlmfaaGreatDoorA4
import Derived.Below
import Derived.LoopNIn
import Derived.RangeFuncRecord
set_option maxRecDepth 10000
set_option linter.all false
set_option linter.unusedSimpArgs false
set_option linter.unusedVariables false
/- The engine, twenty-third part: regions that draw their order and make new memory in any order. (Tools.) -/
namespace Go.Tm
def isF (P : Program) (o : Oper) : Bool :=
 match kindOf P o.op with
 | .eff => true
 | _ => false
def isA (P : Program) (o : Oper) : Bool :=
 match kindOf P o.op with
 | .alloc => true
 | _ => false
def scOQ (q : Nat → Bool) : AObj → Prop
 | .cells c _ _ => ∀ v, v ∈ c → scQ q v = true
 | .map es _ => ∀ e, e ∈ es → scQ q e.key = true ∧ scQ q e.val = true
 | .iter _ _ => True
def scOQb (q : Nat → Bool) : AObj → Bool
 | .cells c _ _ => c.all (scQ q)
 | .map es _ => es.isEmpty
 | .iter _ _ => true
theorem scOQ_of {q : Nat → Bool} {o : AObj} (h : scOQb q o = true) : scOQ q o := by
 cases o with
 | cells c e fx => simpa [scOQb, scOQ] using h
 | map es k => simp only [scOQb, List.isEmpty_iff] at h; subst h; intro e he; simp at he
 | iter s p => trivial
theorem scOQ_imp {q q' : Nat → Bool} (h : ∀ b, q b = true → q' b = true) {o : AObj} (hs : scOQ q o) : scOQ q' o := by
 cases o with
 | cells c e fx => exact fun v hv => scQ_imp q q' h v (hs v hv)
 | map es k => exact fun e he => ⟨scQ_imp q q' h _ (hs e he).1, scQ_imp q q' h _ (hs e he).2⟩
 | iter s p => trivial
theorem objR_congrQ {P : Program} {ρ ρ' : Ren} {q : Nat → Bool} {x : Loc} {o : AObj} {c : Obj} (h : ∀ b, q b = true → ρ' b = ρ b) (hs : scOQ q o) (hr : objR P ρ x o c) : objR P ρ' x o c := by
 cases o with
 | cells l e fx =>
   cases c <;> simp only [objR] at hr ⊢
   have : l.map (ren ρ') = l.map (ren ρ) := List.map_congr_left fun v hv => ren_congrQ ρ ρ' q h v (hs v hv)
   rw [this]; exact hr
 | map es k =>
   cases c <;> simp only [objR] at hr ⊢
   have : es.map (renE ρ') = es.map (renE ρ) := List.map_congr_left fun e he => by
    obtain ⟨h1, h2⟩ := hs e he
    simp only [renE, ren_congrQ ρ ρ' q h _ h1, ren_congrQ ρ ρ' q h _ h2]
   rw [this]; exact hr
 | iter s p => cases c <;> exact hr
theorem FR.putQ {ρ ρ' : Ren} {n : Nat} {ds : List Deferred} {q : Nat → Bool} {tm : Tr Value} {a : Act} (F : FR ρ n ds tm a) (hext : ∀ b, q b = true → ρ' b = ρ b) (hs : ∀ t, scQ q (fget tm t) = true) {d : Option Nat} (hd : dstOk n d = true) (v : Value) :
 FR ρ' n ds (aput tm d v) (a.put d (ren ρ' v)) := by
 cases d with
 | none =>
   refine ⟨F.defers, F.size, fun t ht => ?_⟩
   simp only [aput, Act.put]
   rw [F.val t ht, ren_congrQ ρ ρ' q hext _ (hs t)]
 | some d =>
   simp only [dstOk, decide_eq_true_eq] at hd
   refine ⟨F.defers, by simp [Act.put, F.size], fun t ht => ?_⟩
   simp only [aput, Act.put, fget_set]
   by_cases e : d = t
   ·subst e
    simp [Array.getD, F.size, hd]
   ·rw [if_neg e]
    have := F.val t ht
    rw [ren_congrQ ρ ρ' q hext _ (hs t), ← this]
    rw [Array.getD_eq_getD_getElem?, Array.getD_eq_getD_getElem?, Array.getElem?_setIfInBounds_ne e]
theorem Step.pushOld {E : Env} {B : Nat} {ρ0 ρ : Ren} {h0 h : Heap} {w0 w : World} (s : Step E B ρ0 h0 w0 ρ h w) {ob : AObj} {cc : Obj} (hsc : scO h.next ob) (hB : B ≤ (ρ h.next).r) (hw : w0.heap.size ≤ (ρ h.next).r)
 (hc : w.heap[(ρ h.next).r]? = some cc) (ho : objR E.P ρ (ρ h.next) ob cc) (hd : ∀ b o, h.get b = some o → (ρ b).r ≠ (ρ h.next).r) : Step E B ρ0 h0 w0 ρ (h.push ob) w where
 hr := {
  base_le := by have := s.hr.base_le; simp; omega
  ro_B := s.hr.ro_B
  B_le := s.hr.B_le
  fix := s.hr.fix
  ro := s.hr.ro
  live := fun b o hb => by
   rw [get_push] at hb
   by_cases e : h.next = b
   ·subst e
    simp only [if_true, Option.some.injEq] at hb
    subst hb
    exact ⟨s.hr.base_le, by simp, hB, scO_mono (by simp) hsc, cc, hc, ho⟩
   ·rw [if_neg e] at hb
    obtain ⟨h1, h2, h3, h4, h5⟩ := s.hr.live b o hb
    exact ⟨h1, by simp; omega, h3, scO_mono (by simp) h4, h5⟩
  inj := fun b b' o o' h1 h2 he => by
   rw [get_push] at h1 h2
   by_cases e1 : h.next = b
   ·by_cases e2 : h.next = b'
    ·omega
    ·rw [if_neg e2] at h2
     subst e1
     exact absurd he.symm (hd b' o' h2)
   ·rw [if_neg e1] at h1
    by_cases e2 : h.next = b'
    ·subst e2
     exact absurd he (hd b o h1)
    ·rw [if_neg e2] at h2
     exact s.hr.inj b b' o o' h1 h2 he }
 ext := s.ext
 le := by have := s.le; simp; omega
 frame := s.frame
 range := fun b o hb => by
  rw [get_push] at hb
  by_cases e : h.next = b
  ·subst e; exact .inr hw
  ·rw [if_neg e] at hb; exact s.range b o hb
 size := s.size
 os := s.os
 tape := s.tape
 output := s.output
theorem Step.newOnly {E : Env} {B : Nat} {ρ : Ren} {h : Heap} {w : World} (H : HR E B ρ h w) {k : Nat} (hk : h.next ≤ k) (x : Loc) (cc : Obj) : Step E B ρ h w (upd ρ k x) h (w.alloc cc) where
 hr := {
  base_le := H.base_le
  ro_B := H.ro_B
  B_le := by have := H.B_le; simp; omega
  fix := fun b hb => by have := H.base_le; rw [upd_lt _ _ _ (by omega)]; exact H.fix b hb
  ro := fun b o' hb ho => by
   have h1 := H.ro b o' hb ho
   have h2 := H.ro_B b o' hb ho; have h3 := H.B_le
   rw [heap_alloc, Array.getElem?_push]
   rw [if_neg (by omega)]; exact h1
  live := fun b o' hb => by
   obtain ⟨h1, h2, h3, h4, c', h5, h6⟩ := H.live b o' hb
   rw [upd_lt _ _ _ (by omega)]
   have := H.lt hb
   refine ⟨h1, h2, h3, h4, c', ?_, objR_congr (n := h.next) (fun b hb => upd_lt _ _ _ (by omega)) h4 h6⟩
   rw [heap_alloc, Array.getElem?_push]
   rw [if_neg (by omega)]; exact h5
  inj := fun b b' o1 o2 h1 h2 he => by
   have g1 := (H.live b o1 h1).2.1
   have g2 := (H.live b' o2 h2).2.1
   rw [upd_lt _ _ _ (by omega), upd_lt _ _ _ (by omega)] at he
   exact H.inj b b' o1 o2 h1 h2 he }
 ext := fun b hb => upd_lt _ _ _ (by omega)
 le := Nat.le_refl _
 frame := fun r hr _ => by rw [heap_alloc, Array.getElem?_push]; rw [if_neg (by omega)]
 range := fun b o' hb => by
  have g := (H.live b o' hb).2.1
  rw [upd_lt _ _ _ (by omega)]
  exact .inl ⟨b, o', hb, rfl⟩
 size := by simp
 os := rfl
 tape := rfl
 output := rfl
theorem Step.congr {E : Env} {B : Nat} {ρ0 ρ ρ' : Ren} {h0 h : Heap} {w0 w : World} (s : Step E B ρ0 h0 w0 ρ h w) (hc : ∀ b, b < h.next → ρ' b = ρ b) : Step E B ρ0 h0 w0 ρ' h w where
 hr := {
  base_le := s.hr.base_le
  ro_B := s.hr.ro_B
  B_le := s.hr.B_le
  fix := fun b hb => by have := s.hr.base_le; rw [hc b (by omega)]; exact s.hr.fix b hb
  ro := s.hr.ro
  live := fun b o hb => by
   obtain ⟨h1, h2, h3, h4, c', h5, h6⟩ := s.hr.live b o hb
   rw [hc b h2]
   exact ⟨h1, h2, h3, h4, c', h5, objR_congr (n := h.next) hc h4 h6⟩
  inj := fun b b' o o' h1 h2 he => by
   have g1 := (s.hr.live b o h1).2.1
   have g2 := (s.hr.live b' o' h2).2.1
   rw [hc b g1, hc b' g2] at he
   exact s.hr.inj b b' o o' h1 h2 he }
 ext := fun b hb => by have := s.le; rw [hc b (by omega)]; exact s.ext b hb
 le := s.le
 frame := s.frame
 range := fun b o hb => by
  have g1 := (s.hr.live b o hb).2.1
  rw [hc b g1]; exact s.range b o hb
 size := s.size
 os := s.os
 tape := s.tape
 output := s.output
end Go.Tm
/- The engine, twenty-fourth part: regions that draw their order and make new memory in any order. -/
namespace Go.Tm
def inSpan (c : Nat → St) (k b : Nat) : Bool := decide ((c k).h.next ≤ b) && decide (b < (c (k + 1)).h.next)
def live (c : Nat → St) (D : List Nat) (b : Nat) : Bool := decide (b < (c 0).h.next) || D.any fun k => inSpan c k b
def befs (M : List Nat) (i : Nat) : List Nat := (List.range i).filter fun k => bef M k i
structure Draw2 (E : Env) (call : Caller) (O : List Oper) (c : Nat → St) : Prop where
 run : ∀ (i : Nat) (o : Oper), O[i]? = some o → aop1 E call O o (c i) = some (c (i + 1))
 down : Down O
 dsts : ∀ (i j : Nat) (o o' : Oper) (d : Nat), O[i]? = some o → O[j]? = some o' → o.dst = some d → o'.dst = some d → i = j
 rds : ∀ (i : Nat) (o : Oper) (t j : Nat) (o' : Oper), O[i]? = some o → t ∈ rdTmps O o → O[j]? = some o' → o'.dst = some t → bef (masks O []) j i = true ∨ bef (masks O []) i j = true ∨ i = j
 effs : ∀ (a b : Nat) (o o' : Oper), a < b → O[a]? = some o → O[b]? = some o' → isF E.P o = true → isF E.P o' = true → bef (masks O []) a b = true
 alle : ∀ (a b : Nat) (o o' : Oper), a < b → O[a]? = some o → O[b]? = some o' → isA E.P o = true → isF E.P o' = true → bef (masks O []) a b = true
 reads : ∀ (i : Nat) (o : Oper) (p : Nat), O[i]? = some o → isR E.P o = true → awanted O (c i).tm o = true → (p = 0 ∨ ∃ e oe, O[e]? = some oe ∧ isF E.P oe = true ∧ p = e + 1 ∧ bef (masks O []) i e = false) →
  (∀ e oe, O[e]? = some oe → isF E.P oe = true → bef (masks O []) e i = true → e < p) → aread E (c p).h (opd (c i).tm) o.op = aread E (c i).h (opd (c i).tm) o.op
 mono : ∀ i, i < O.length → (c i).h.next ≤ (c (i + 1)).h.next
 opds : ∀ (i : Nat) (o : Oper) (x : Operand), O[i]? = some o → isF E.P o = true ∨ isA E.P o = true → awanted O (c i).tm o = true → x ∈ o.op.operands → sc (c i).h.next (opd (c i).tm x) = true
 vals : ∀ (i : Nat) (o : Oper) (d : Nat), O[i]? = some o → o.dst = some d → scQ (live c (i :: befs (masks O []) i)) (fget (c (i + 1)).tm d) = true
 objs : ∀ (i : Nat) (o : Oper) (mk : Nat → Value) (ob : AObj), O[i]? = some o → isA E.P o = true → awanted O (c i).tm o = true → aalloc E.P (opd (c i).tm) o.op = some (mk, ob) → scOQ (live c (befs (masks O []) i)) ob
section
variable {E : Env} {call : Caller} {O : List Oper} {c : Nat → St}
theorem Draw2.canon (W : Draw2 E call O c) : ∀ i, i ≤ O.length → Fr O c (List.range i) (c i).tm
 | 0, _ => fun t => ⟨fun j o hj => by simp at hj, fun _ => rfl⟩
 | i + 1, hi => by
   have ih := W.canon i (by omega)
   have ho : O[i]? = some O[i] := List.getElem?_eq_getElem (by omega)
   obtain ⟨v, hv, _⟩ := aop1_tm (W.run i _ ho)
   intro t
   rw [hv]
   constructor
   ·intro j o hj hjo hd
    rw [fget_aput]
    by_cases e : j = i
    ·subst e
     rw [ho] at hjo; injection hjo with hjo; subst hjo
     rw [hv, fget_aput]
    ·have hji : j < i := by simp at hj; omega
     have : ¬ (O[i].dst = some t) := fun h => e (W.dsts j i o _ t hjo ho hd h)
     rw [if_neg this]
     exact (ih t).1 j o (by simpa using hji) hjo hd
   ·intro hn
    rw [fget_aput, if_neg (hn i _ (by simp) ho)]
    exact (ih t).2 fun j o hj hjo => hn j o (by simp at hj ⊢; omega) hjo
theorem Draw2.agree (W : Draw2 E call O c) {D : List Nat} (hD : Closed O D) {tm : Tr Value} (F : Fr O c D tm) {i : Nat} {o : Oper} (ho : O[i]? = some o) (hi : i ∉ D) (hr : ∀ o, O[i]? = some o → ∀ p, p ∈ preds o → p ∈ D) :
 ∀ t, t ∈ rdTmps O o → fget tm t = fget (c i).tm t := by
 intro t ht
 have hlen : i < O.length := (List.getElem?_eq_some_iff.1 ho).1
 have C := W.canon i (by omega)
 by_cases hx : ∃ (j : Nat) (o' : Oper), O[j]? = some o' ∧ o'.dst = some t
 ·obtain ⟨j, o', hj, hd⟩ := hx
  rcases W.rds i o t j o' ho ht hj hd with h | h | h
  ·have h1 := bef_ready hD hr h
   have h2 := bef_lt W.down i j h
   rw [(F t).1 j o' h1 hj hd, (C t).1 j o' (by simpa using h2) hj hd]
  ·have h1 : j ∉ D := fun hjD => hi (bef_done hD j i hjD h)
   have h2 := bef_lt W.down j i h
   rw [(F t).2 (fun k ok hk hok hdk => by have := W.dsts j k o' ok t hj hok hd hdk; subst this; exact h1 hk),
    (C t).2 (fun k ok hk hok hdk => by have := W.dsts j k o' ok t hj hok hd hdk; subst this; simp at hk; omega)]
  ·subst h
   rw [(F t).2 (fun k ok hk hok hdk => by have := W.dsts i k o' ok t hj hok hd hdk; subst this; exact hi hk),
    (C t).2 (fun k ok hk hok hdk => by have := W.dsts i k o' ok t hj hok hd hdk; subst this; simp at hk)]
 ·have hn : ∀ (D' : List Nat) (j : Nat) (o' : Oper), j ∈ D' → O[j]? = some o' → o'.dst ≠ some t := fun _ j o' _ hj hd => hx ⟨j, o', hj, hd⟩
  rw [(F t).2 (hn D), (C t).2 (hn _)]
theorem Draw2.frstep {D : List Nat} {tm : Tr Value} (W : Draw2 E call O c) (F : Fr O c D tm) {i : Nat} {o : Oper} (ho : O[i]? = some o) (hi : i ∉ D) {v : Value} (hv : (c (i + 1)).tm = aput (c i).tm o.dst v) : Fr O c (i :: D) (aput tm o.dst v) := by
 intro t
 constructor
 ·intro j oj hj hoj hd
  rw [fget_aput]
  by_cases e : j = i
  ·subst e
   rw [ho] at hoj; injection hoj with hoj; subst hoj
   rw [hv, fget_aput, if_pos hd, if_pos hd]
  ·have hjD : j ∈ D := by simp only [List.mem_cons] at hj; exact hj.resolve_left e
   rw [if_neg (fun h => e (W.dsts j i oj o t hoj ho hd h))]
   exact (F t).1 j oj hjD hoj hd
 ·intro hn
  rw [fget_aput, if_neg (hn i o (by simp) ho)]
  exact (F t).2 fun j oj hj hoj => hn j oj (List.mem_cons_of_mem _ hj) hoj
theorem live_imp {D D' : List Nat} (h : ∀ k, k ∈ D → k ∈ D') : ∀ b, live c D b = true → live c D' b = true := by
 intro b hb
 simp only [live, Bool.or_eq_true, List.any_eq_true] at hb ⊢
 rcases hb with hb | ⟨k, hk, hb⟩
 ·exact .inl hb
 ·exact .inr ⟨k, h k hk, hb⟩
theorem Draw2.next_le (W : Draw2 E call O c) {a : Nat} : ∀ k, a + k ≤ O.length → (c a).h.next ≤ (c (a + k)).h.next
 | 0, _ => Nat.le_refl _
 | k + 1, h => Nat.le_trans (W.next_le k (by omega)) (W.mono (a + k) (by omega))
theorem Draw2.next_le' (W : Draw2 E call O c) {a b : Nat} (hab : a ≤ b) (hb : b ≤ O.length) : (c a).h.next ≤ (c b).h.next := by
 obtain ⟨k, rfl⟩ : ∃ k, b = a + k := ⟨b - a, by omega⟩
 exact W.next_le k hb
theorem Draw2.unused (W : Draw2 E call O c) {D : List Nat} (hb : ∀ k, k ∈ D → k < O.length) {i b : Nat} (hi : i ∉ D) (hlt : i < O.length) (h1 : (c i).h.next ≤ b) (h2 : b < (c (i + 1)).h.next) : ¬ (live c D b = true) := by
 intro h
 simp only [live, inSpan, Bool.or_eq_true, List.any_eq_true, Bool.and_eq_true, decide_eq_true_eq] at h
 rcases h with h | ⟨k, hk, h3, h4⟩
 ·have := W.next_le' (a := 0) (b := i) (by omega) (by omega); omega
 ·have hkl := hb k hk
  rcases Nat.lt_trichotomy k i with h5 | h5 | h5
  ·have := W.next_le' (a := k + 1) (b := i) (by omega) (by omega); omega
  ·subst h5; exact hi hk
  ·have := W.next_le' (a := i + 1) (b := k) (by omega) (by omega); omega
def Early (E : Env) (c : Nat → St) (w0 : World) (D : List Nat) (p : Nat) (ρ : Ren) (w : World) (j : Nat) (o : Oper) : Prop :=
 ∃ mk ob cc, aalloc E.P (opd (c j).tm) o.op = some (mk, ob) ∧ w.heap[(ρ (c j).h.next).r]? = some cc ∧ objR E.P ρ (ρ (c j).h.next) ob cc ∧ scO (c j).h.next ob ∧ scOQ (live c D) ob ∧ w0.heap.size ≤ (ρ (c j).h.next).r ∧
  ∀ b o', (c p).h.get b = some o' → (ρ b).r ≠ (ρ (c j).h.next).r
structure Inv (E : Env) (B : Nat) (O : List Oper) (c : Nat → St) (ρ0 : Ren) (w0 : World) (D : List Nat) (p : Nat) (ρ : Ren) (tm : Tr Value) (w : World) : Prop where
 st : Step E B ρ0 (c 0).h w0 ρ (c p).h w
 bd : ∀ k, k ∈ D → k < O.length
 le : p ≤ O.length
 form : p = 0 ∨ ∃ e oe, O[e]? = some oe ∧ isF E.P oe = true ∧ p = e + 1
 effs : ∀ e o, O[e]? = some o → isF E.P o = true → (e ∈ D ↔ e < p)
 allocs : ∀ j o, O[j]? = some o → isA E.P o = true → j < p → j ∈ D
 early : ∀ j o, O[j]? = some o → isA E.P o = true → p ≤ j → j ∈ D → awanted O (c j).tm o = true → Early E c w0 D p ρ w j o
 dist : ∀ j k o o', O[j]? = some o → isA E.P o = true → p ≤ j → j ∈ D → awanted O (c j).tm o = true → O[k]? = some o' → isA E.P o' = true → p ≤ k → k ∈ D → awanted O (c k).tm o' = true → j ≠ k →
  (ρ (c j).h.next).r ≠ (ρ (c k).h.next).r
 fr : Fr O c D tm
 scq : ∀ t, scQ (live c D) (fget tm t) = true
theorem isE_of {P : Program} {o : Oper} (h1 : isF P o = false) (h2 : isA P o = false) : isE P o = false := by
 unfold isF at h1; unfold isA at h2; unfold isE
 cases hk : kindOf P o.op <;> simp only [hk] at h1 h2 ⊢ <;> contradiction
theorem alloc_h {o : Oper} (hA : isA E.P o = true) {s : St} {v : Value} {h' : Heap} (ha : aop E call o.op s = some (v, h')) : ∃ mk ob, aalloc E.P (opd s.tm) o.op = some (mk, ob) ∧ v = mk s.h.next ∧ h' = s.h.push ob := by
 unfold aop at ha
 unfold isA at hA
 cases hk : kindOf E.P o.op <;> simp only [hk] at ha hA
 ·cases hA
 ·cases hA
 ·cases hp : aalloc E.P (opd s.tm) o.op with
  | none => simp [hp] at ha
  | some p =>
    simp [hp] at ha
    exact ⟨p.1, p.2, rfl, ha.1.symm, ha.2.symm⟩
 ·cases hA
theorem Draw2.push (W : Draw2 E call O c) {B : Nat} {ρ0 ρ : Ren} {w0 w : World} (hB : B ≤ w0.heap.size) {D : List Nat} {p : Nat} {tm : Tr Value} (I : Inv E B O c ρ0 w0 D p ρ tm w) : ∀ k, p + k ≤ O.length →
 (∀ e o, p ≤ e → e < p + k → O[e]? = some o → isF E.P o = false) → (∀ j o, p ≤ j → j < p + k → O[j]? = some o → isA E.P o = true → j ∈ D) →
 Step E B ρ0 (c 0).h w0 ρ (c (p + k)).h w ∧ ∀ b o, (c (p + k)).h.get b = some o → (∃ o', (c p).h.get b = some o') ∨ ∃ j oj, p ≤ j ∧ j < p + k ∧ O[j]? = some oj ∧ isA E.P oj = true ∧ j ∈ D ∧ awanted O (c j).tm oj = true ∧ b = (c j).h.next
 | 0, _, _, _ => ⟨I.st, fun b o h => .inl ⟨o, h⟩⟩
 | k + 1, hl, hF, hA => by
   obtain ⟨s, hlive⟩ := W.push hB I k (by omega) (fun e o h1 h2 => hF e o h1 (by omega)) (fun j o h1 h2 => hA j o h1 (by omega))
   have ho : O[p + k]? = some O[p + k] := List.getElem?_eq_getElem (by omega)
   generalize O[p + k] = o at ho
   have hnF := hF (p + k) o (by omega) (by omega) ho
   have hlive' : ∀ b o, (c (p + k)).h.get b = some o → (∃ o', (c p).h.get b = some o') ∨ ∃ j oj, p ≤ j ∧ j < p + (k + 1) ∧ O[j]? = some oj ∧ isA E.P oj = true ∧ j ∈ D ∧ awanted O (c j).tm oj = true ∧ b = (c j).h.next := by
    intro b o hb
    rcases hlive b o hb with h | ⟨j, oj, h1, h2, h3⟩
    ·exact .inl h
    ·exact .inr ⟨j, oj, h1, by omega, h3⟩
   have run := W.run (p + k) o ho
   rw [show p + (k + 1) = p + k + 1 by omega] at hlive' ⊢
   cases hAo : isA E.P o with
   | false =>
     rw [quiet_h (isE_of hnF hAo) run]
     exact ⟨s, hlive'⟩
   | true =>
     have hD := hA (p + k) o (by omega) (by omega) ho hAo
     obtain ⟨v, _, ⟨hw, ha⟩ | ⟨hw, _, he⟩⟩ := aop1_tm run
     ·obtain ⟨mk, ob, ha1, _, ha2⟩ := alloc_h hAo ha
      obtain ⟨mk', ob', cc, g1, g2, g3, g4, g5, g6, g7⟩ := I.early (p + k) o ho hAo (by omega) hD hw
      rw [ha1] at g1
      simp only [Option.some.injEq, Prod.mk.injEq] at g1
      obtain ⟨rfl, rfl⟩ := g1
      rw [ha2]
      refine ⟨s.pushOld g4 (by omega) g6 g2 g3 ?_, ?_⟩
      ·intro b o' hb
       rcases hlive b o' hb with ⟨o'', h⟩ | ⟨j, oj, h1, h2, h3, h4, h5, h6, h7⟩
       ·exact g7 b o'' h
       ·subst h7
        exact I.dist j (p + k) oj o h3 h4 h1 h5 h6 ho hAo (by omega) hD hw (by omega)
      ·intro b o' hb
       rw [get_push] at hb
       by_cases e : (c (p + k)).h.next = b
       ·exact .inr ⟨p + k, o, by omega, by omega, ho, hAo, hD, hw, e.symm⟩
       ·rw [if_neg e] at hb; exact hlive' b o' hb
     ·rw [he]; exact ⟨s, hlive'⟩
end
end Go.Tm
/- The engine, twenty-fifth part: regions that draw their order and make new memory in any order: the steps. -/
namespace Go.Tm
section
variable {E : Env} {call : Caller} {O : List Oper} {c : Nat → St}
theorem Draw2.scqstep (W : Draw2 E call O c) {D : List Nat} (hD : Closed O D) {tm : Tr Value} (hs : ∀ t, scQ (live c D) (fget tm t) = true) {i : Nat} {o : Oper} (ho : O[i]? = some o)
 (hr : ∀ o, O[i]? = some o → ∀ p, p ∈ preds o → p ∈ D) {v : Value} (hv : (c (i + 1)).tm = aput (c i).tm o.dst v) : ∀ t, scQ (live c (i :: D)) (fget (aput tm o.dst v) t) = true := by
 intro t
 rw [fget_aput]
 by_cases e : o.dst = some t
 ·rw [if_pos e]
  have := W.vals i o t ho e
  rw [hv, fget_aput, if_pos e] at this
  refine scQ_imp _ _ (live_imp fun k hk => ?_) v this
  simp only [List.mem_cons] at hk ⊢
  rcases hk with hk | hk
  ·exact .inl hk
  ·simp only [befs, List.mem_filter] at hk
   exact .inr (bef_ready hD hr hk.2)
 ·rw [if_neg e]
  exact scQ_imp _ _ (live_imp fun k hk => List.mem_cons_of_mem _ hk) _ (hs t)
theorem Early.more {w0 : World} {D : List Nat} {i p : Nat} {ρ : Ren} {w : World} {j : Nat} {o : Oper} (h : Early E c w0 D p ρ w j o) : Early E c w0 (i :: D) p ρ w j o := by
 obtain ⟨mk, ob, cc, g1, g2, g3, g4, g5, g6, g7⟩ := h
 exact ⟨mk, ob, cc, g1, g2, g3, g4, scOQ_imp (live_imp fun k hk => List.mem_cons_of_mem _ hk) g5, g6, g7⟩
theorem same_o {i : Nat} {o o' : Oper} (h : O[i]? = some o) (h' : O[i]? = some o') : o = o' := by rw [h] at h'; exact Option.some.inj h'
variable {B : Nat} {ρ0 : Ren} {w0 : World}
theorem Inv.quiet (W : Draw2 E call O c) {D : List Nat} (hD : Closed O D) {p : Nat} {ρ : Ren} {tm : Tr Value} {w : World} (I : Inv E B O c ρ0 w0 D p ρ tm w) {i : Nat} {o : Oper} (ho : O[i]? = some o) (hi : i ∉ D)
 (hr : ∀ o, O[i]? = some o → ∀ p, p ∈ preds o → p ∈ D) (hF : isF E.P o = false) (hA : isA E.P o = true → awanted O (c i).tm o = false) {v : Value} (hv : (c (i + 1)).tm = aput (c i).tm o.dst v) :
 Inv E B O c ρ0 w0 (i :: D) p ρ (aput tm o.dst v) w := by
 have hne : ∀ j oj, O[j]? = some oj → isA E.P oj = true → awanted O (c j).tm oj = true → j ≠ i := by
  intro j oj h1 h2 h3 e
  subst e
  have := same_o ho h1; subst this
  rw [hA h2] at h3; cases h3
 have hmem : ∀ j oj, O[j]? = some oj → isA E.P oj = true → awanted O (c j).tm oj = true → j ∈ i :: D → j ∈ D := by
  intro j oj h1 h2 h3 h4
  simp only [List.mem_cons] at h4
  exact h4.resolve_left (hne j oj h1 h2 h3)
 refine ⟨I.st, ?_, I.le, I.form, ?_, ?_, ?_, ?_, W.frstep I.fr ho hi hv, W.scqstep hD I.scq ho hr hv⟩
 ·intro k hk
  simp only [List.mem_cons] at hk
  rcases hk with rfl | hk
  ·exact (List.getElem?_eq_some_iff.1 ho).1
  ·exact I.bd k hk
 ·intro e oe h1 h2
  have : e ≠ i := by
   intro he; subst he
   have := same_o ho h1; subst this
   rw [hF] at h2; cases h2
  simp only [List.mem_cons, this, false_or]
  exact I.effs e oe h1 h2
 ·intro j oj h1 h2 h3
  exact List.mem_cons_of_mem _ (I.allocs j oj h1 h2 h3)
 ·intro j oj h1 h2 h3 h4 h5
  exact (I.early j oj h1 h2 h3 (hmem j oj h1 h2 h5 h4) h5).more
 ·intro j k oj ok h1 h2 h3 h4 h5 k1 k2 k3 k4 k5 hjk
  exact I.dist j k oj ok h1 h2 h3 (hmem j oj h1 h2 h5 h4) h5 k1 k2 k3 (hmem k ok k1 k2 k5 k4) k5 hjk
theorem isA_not_isF {P : Program} {o : Oper} (h : isA P o = true) : isF P o = false := by
 unfold isA at h; unfold isF
 cases hk : kindOf P o.op <;> simp only [hk] at h ⊢ <;> cases h
theorem Inv.alloc (W : Draw2 E call O c) {D : List Nat} (hD : Closed O D) {p : Nat} {ρ : Ren} {tm : Tr Value} {w : World} (I : Inv E B O c ρ0 w0 D p ρ tm w) {i : Nat} {o : Oper} (ho : O[i]? = some o) (hi : i ∉ D)
 (hr : ∀ o, O[i]? = some o → ∀ p, p ∈ preds o → p ∈ D) (hA : isA E.P o = true) (hw : awanted O (c i).tm o = true) {v : Value} (hv : (c (i + 1)).tm = aput (c i).tm o.dst v)
 {mk : Nat → Value} {ob : AObj} {cc : Obj} (ha : aalloc E.P (opd (c i).tm) o.op = some (mk, ob)) (hh : (c (i + 1)).h = (c i).h.push ob) (hc : objR E.P ρ ⟨w.heap.size, 0, 0⟩ ob cc) (hsc : scO (c i).h.next ob) :
 Inv E B O c ρ0 w0 (i :: D) p (upd ρ (c i).h.next ⟨w.heap.size, 0, 0⟩) (aput tm o.dst v) (w.alloc cc) ∧ ∀ b, live c D b = true → upd ρ (c i).h.next ⟨w.heap.size, 0, 0⟩ b = ρ b := by
 have hlt : i < O.length := (List.getElem?_eq_some_iff.1 ho).1
 have hip : p ≤ i := by
  rcases Nat.lt_or_ge i p with h | h
  ·exact absurd (I.allocs i o ho hA h) hi
  ·exact h
 have hnext : (c (i + 1)).h.next = (c i).h.next + 1 := by rw [hh]; rfl
 have hfree : ¬ (live c D (c i).h.next = true) := W.unused I.bd hi hlt (Nat.le_refl _) (by omega)
 have hag : ∀ b, live c D b = true → upd ρ (c i).h.next ⟨w.heap.size, 0, 0⟩ b = ρ b := fun b hb => upd_ne _ _ _ (fun e => hfree (e ▸ hb))
 have hpn := W.next_le' (a := p) (b := i) hip (by omega)
 have hmem : ∀ j, j ≠ i → j ∈ i :: D → j ∈ D := by
  intro j h1 h2
  simp only [List.mem_cons] at h2
  exact h2.resolve_left h1
 have hold : ∀ j oj, O[j]? = some oj → j ≠ i → isA E.P oj = true → awanted O (c j).tm oj = true → j ∈ D → (c j).h.next ≠ (c i).h.next := by
  intro j oj h1 h2 h3 h4 h5
  have hjl : j < O.length := (List.getElem?_eq_some_iff.1 h1).1
  have hj : (c (j + 1)).h.next = (c j).h.next + 1 := by
   obtain ⟨v', _, ⟨_, h⟩ | ⟨h, _⟩⟩ := aop1_tm (W.run j oj h1)
   ·obtain ⟨_, _, _, _, h6⟩ := alloc_h h3 h
    rw [h6]; rfl
   ·rw [h4] at h; cases h
  rcases Nat.lt_or_ge j i with h | h
  ·have := W.next_le' (a := j + 1) (b := i) (by omega) (by omega); omega
  ·have := W.next_le' (a := i + 1) (b := j) (by omega) (by omega); omega
 have hlow : ∀ b o', (c p).h.get b = some o' → upd ρ (c i).h.next ⟨w.heap.size, 0, 0⟩ b = ρ b ∧ (ρ b).r < w.heap.size := by
  intro b o' hb
  have h1 := (I.st.hr.live b o' hb).2.1
  exact ⟨upd_lt _ _ _ (by omega), I.st.hr.lt hb⟩
 refine ⟨⟨I.st.trans (Step.newOnly I.st.hr hpn _ _), ?_, I.le, I.form, ?_, ?_, ?_, ?_, W.frstep I.fr ho hi hv, W.scqstep hD I.scq ho hr hv⟩, hag⟩
 ·intro k hk
  simp only [List.mem_cons] at hk
  rcases hk with rfl | hk
  ·exact hlt
  ·exact I.bd k hk
 ·intro e oe h1 h2
  have : e ≠ i := by
   intro he; subst he
   have := same_o ho h1; subst this
   rw [isA_not_isF hA] at h2; cases h2
  simp only [List.mem_cons, this, false_or]
  exact I.effs e oe h1 h2
 ·intro j oj h1 h2 h3
  exact List.mem_cons_of_mem _ (I.allocs j oj h1 h2 h3)
 ·intro j oj h1 h2 h3 h4 h5
  by_cases hji : j = i
  ·subst hji
   have := same_o ho h1; subst this
   refine ⟨mk, ob, cc, ha, ?_, ?_, hsc, ?_, ?_, ?_⟩
   ·rw [upd_same, heap_alloc]; simp
   ·rw [upd_same]; exact objR_congr (n := (c j).h.next) (fun b hb => upd_lt _ _ _ hb) hsc hc
   ·refine scOQ_imp (live_imp fun k hk => ?_) (W.objs j o mk ob ho hA hw ha)
    simp only [befs, List.mem_filter] at hk
    exact List.mem_cons_of_mem _ (bef_ready hD hr hk.2)
   ·rw [upd_same]; exact I.st.size
   ·intro b o' hb
    obtain ⟨h6, h7⟩ := hlow b o' hb
    rw [h6, upd_same]; simp only; omega
  ·obtain ⟨mk', ob', cc', g1, g2, g3, g4, g5, g6, g7⟩ := I.early j oj h1 h2 h3 (hmem j hji h4) h5
   have e1 := upd_ne ρ (c i).h.next ⟨w.heap.size, 0, 0⟩ (hold j oj h1 hji h2 h5 (hmem j hji h4))
   refine ⟨mk', ob', cc', g1, ?_, ?_, g4, scOQ_imp (live_imp fun k hk => List.mem_cons_of_mem _ hk) g5, ?_, ?_⟩
   ·rw [e1, heap_alloc, Array.getElem?_push]
    rw [if_neg ?_]
    ·exact g2
    ·intro he
     rw [he] at g2
     simp at g2
   ·rw [e1]; exact objR_congrQ hag g5 g3
   ·rw [e1]; exact g6
   ·intro b o' hb
    rw [(hlow b o' hb).1, e1]
    exact g7 b o' hb
 ·intro j k oj ok h1 h2 h3 h4 h5 k1 k2 k3 k4 k5 hjk
  have hr' : ∀ j oj, O[j]? = some oj → isA E.P oj = true → p ≤ j → j ∈ D → awanted O (c j).tm oj = true → (ρ (c j).h.next).r < w.heap.size := by
   intro j oj h1 h2 h3 h4 h5
   obtain ⟨_, _, cc', _, g2, _⟩ := I.early j oj h1 h2 h3 h4 h5
   rcases Nat.lt_or_ge (ρ (c j).h.next).r w.heap.size with h' | h'
   ·exact h'
   ·simp [Array.getElem?_eq_none h'] at g2
  by_cases hji : j = i
  ·subst hji
   have hkD := hmem k (fun e => hjk e.symm) k4
   rw [upd_same, upd_ne _ _ _ (hold k ok k1 (fun e => hjk e.symm) k2 k5 hkD)]
   have := hr' k ok k1 k2 k3 hkD k5
   simp only; omega
  ·have hjD := hmem j hji h4
   rw [upd_ne _ _ _ (hold j oj h1 hji h2 h5 hjD)]
   by_cases hki : k = i
   ·subst hki
    rw [upd_same]
    have := hr' j oj h1 h2 h3 hjD h5
    simp only; omega
   ·have hkD := hmem k hki k4
    rw [upd_ne _ _ _ (hold k ok k1 hki k2 k5 hkD)]
    exact I.dist j k oj ok h1 h2 h3 hjD h5 k1 k2 k3 hkD k5 hjk
theorem Inv.atE (W : Draw2 E call O c) (hB : B ≤ w0.heap.size) {D : List Nat} (hD : Closed O D) {p : Nat} {ρ : Ren} {tm : Tr Value} {w : World} (I : Inv E B O c ρ0 w0 D p ρ tm w) {i : Nat} {o : Oper} (ho : O[i]? = some o) (hi : i ∉ D)
 (hr : ∀ o, O[i]? = some o → ∀ p, p ∈ preds o → p ∈ D) (hF : isF E.P o = true) : p ≤ i ∧ Step E B ρ0 (c 0).h w0 ρ (c i).h w ∧
  ∀ b o, (c i).h.get b = some o → (∃ o', (c p).h.get b = some o') ∨ ∃ j oj, p ≤ j ∧ j < i ∧ O[j]? = some oj ∧ isA E.P oj = true ∧ j ∈ D ∧ awanted O (c j).tm oj = true ∧ b = (c j).h.next := by
 have hlt : i < O.length := (List.getElem?_eq_some_iff.1 ho).1
 have hip : p ≤ i := by
  rcases Nat.lt_or_ge i p with h | h
  ·exact absurd ((I.effs i o ho hF).2 h) hi
  ·exact h
 obtain ⟨k, rfl⟩ : ∃ k, i = p + k := ⟨i - p, by omega⟩
 refine ⟨hip, W.push hB I k (by omega) ?_ ?_⟩
 ·intro e oe h1 h2 h3
  cases h4 : isF E.P oe with
  | false => rfl
  | true =>
    have := (I.effs e oe h3 h4).1 (bef_ready hD hr (W.effs e (p + k) oe o h2 h3 ho h4 hF))
    omega
 ·intro j oj h1 h2 h3 h4
  exact bef_ready hD hr (W.alle j (p + k) oj o h2 h3 ho h4 hF)
theorem Inv.eff (W : Draw2 E call O c) (hB : B ≤ w0.heap.size) {D : List Nat} (hD : Closed O D) {p : Nat} {ρ ρ' : Ren} {tm : Tr Value} {w w' : World} (I : Inv E B O c ρ0 w0 D p ρ tm w) {i : Nat} {o : Oper} (ho : O[i]? = some o) (hi : i ∉ D)
 (hr : ∀ o, O[i]? = some o → ∀ p, p ∈ preds o → p ∈ D) (hF : isF E.P o = true) {v : Value} (hv : (c (i + 1)).tm = aput (c i).tm o.dst v) (t : Step E B ρ (c i).h w ρ' (c (i + 1)).h w') :
 ∃ ρ'', Inv E B O c ρ0 w0 (i :: D) (i + 1) ρ'' (aput tm o.dst v) w' ∧ (∀ b, live c D b = true → ρ'' b = ρ b) ∧ ∀ b, b < (c (i + 1)).h.next → ρ'' b = ρ' b := by
 have hlt : i < O.length := (List.getElem?_eq_some_iff.1 ho).1
 obtain ⟨hip, s, hlive⟩ := I.atE W hB hD ho hi hr hF
 have hag : ∀ b, live c D b = true → (fun b => if b < (c (i + 1)).h.next then ρ' b else ρ b) b = ρ b := by
  intro b hb
  simp only
  split
  ·rename_i h1
   rcases Nat.lt_or_ge b (c i).h.next with h2 | h2
   ·exact t.ext b h2
   ·exact absurd hb (W.unused I.bd hi hlt h2 h1)
  ·rfl
 have hmem : ∀ j, i + 1 ≤ j → j ∈ i :: D → j ∈ D := by
  intro j h1 h2
  simp only [List.mem_cons] at h2
  exact h2.resolve_left (by omega)
 have hhi : ∀ j oj, O[j]? = some oj → i + 1 ≤ j → ¬ (c j).h.next < (c (i + 1)).h.next := by
  intro j oj h1 h2
  have hjl : j < O.length := (List.getElem?_eq_some_iff.1 h1).1
  have := W.next_le' (a := i + 1) (b := j) h2 (by omega); omega
 refine ⟨fun b => if b < (c (i + 1)).h.next then ρ' b else ρ b, ⟨(s.trans t).congr fun b hb => if_pos hb, ?_, by omega, .inr ⟨i, o, ho, hF, rfl⟩, ?_, ?_, ?_, ?_, W.frstep I.fr ho hi hv, W.scqstep hD I.scq ho hr hv⟩, hag, fun b hb => if_pos hb⟩
 ·intro k hk
  simp only [List.mem_cons] at hk
  rcases hk with rfl | hk
  ·exact hlt
  ·exact I.bd k hk
 ·intro e oe h1 h2
  simp only [List.mem_cons]
  constructor
  ·rintro (rfl | h)
   ·omega
   ·have := (I.effs e oe h1 h2).1 h; omega
  ·intro h
   rcases Nat.lt_or_ge e i with h3 | h3
   ·exact .inr (bef_ready hD hr (W.effs e i oe o h3 h1 ho h2 hF))
   ·exact .inl (by omega)
 ·intro j oj h1 h2 h3
  rcases Nat.lt_or_ge j i with h4 | h4
  ·exact List.mem_cons_of_mem _ (bef_ready hD hr (W.alle j i oj o h4 h1 ho h2 hF))
  ·have : j = i := by omega
   simp [this]
 ·intro j oj h1 h2 h3 h4 h5
  have hjD := hmem j h3 h4
  obtain ⟨mk, ob, cc, g1, g2, g3, g4, g5, g6, g7⟩ := I.early j oj h1 h2 (by omega) hjD h5
  have e1 : (if (c j).h.next < (c (i + 1)).h.next then ρ' (c j).h.next else ρ (c j).h.next) = ρ (c j).h.next := if_neg (hhi j oj h1 h3)
  have hsz : (ρ (c j).h.next).r < w.heap.size := by
   rcases Nat.lt_or_ge (ρ (c j).h.next).r w.heap.size with h' | h'
   ·exact h'
   ·simp [Array.getElem?_eq_none h'] at g2
  have hnl : ∀ b o', (c i).h.get b = some o' → (ρ b).r ≠ (ρ (c j).h.next).r := by
   intro b o' hb
   rcases hlive b o' hb with ⟨o'', h⟩ | ⟨k, ok, k1, k2, k3, k4, k5, k6, rfl⟩
   ·exact g7 b o'' h
   ·exact I.dist k j ok oj k3 k4 k1 k5 k6 h1 h2 (by omega) hjD h5 (by omega)
  refine ⟨mk, ob, cc, g1, ?_, ?_, g4, scOQ_imp (live_imp fun k hk => List.mem_cons_of_mem _ hk) g5, ?_, ?_⟩
  ·simp only [e1]; rw [t.frame _ hsz hnl]; exact g2
  ·simp only [e1]; exact objR_congrQ hag g5 g3
  ·simp only [e1]; exact g6
  ·intro b o' hb
   simp only [e1]
   rw [if_pos (t.hr.live b o' hb).2.1]
   rcases t.range b o' hb with ⟨b0, o0, h6, h7⟩ | h6
   ·rw [← h7]; exact hnl b0 o0 h6
   ·omega
 ·intro j k oj ok h1 h2 h3 h4 h5 k1 k2 k3 k4 k5 hjk
  simp only [if_neg (hhi j oj h1 h3), if_neg (hhi k ok k1 k3)]
  exact I.dist j k oj ok h1 h2 (by omega) (hmem j h3 h4) h5 k1 k2 (by omega) (hmem k k3 k4) k5 hjk
end
end Go.Tm
/- The engine, twenty-sixth part: regions that draw their order and make new memory in any order: the whole region. -/
namespace Go.Tm
theorem sc_of_live {c : Nat → St} {D : List Nat} {m : Nat} (h : ∀ b, live c D b = true → b < m) (v : Value) (hs : scQ (live c D) v = true) : sc m v = true := by
 rw [← sc_scQ]
 exact scQ_imp _ _ (fun b hb => by simpa using h b hb) v hs
theorem run_draw2 {E : Env} {B n : Nat} {ds : List Deferred} {rd : Option Nat} {call : Caller} (hcall : CallOk E B call) {ops : Array Oper} (hok : opsOk E.base n ops = true) {Q : Exit → Act → World → Prop} {c : Nat → St} (W : Draw2 E call ops.toList c)
 {ρ0 : Ren} {w0 : World} (hB : B ≤ w0.heap.size)
 (hq : ∀ ρ' a' w', Step E B ρ0 (c 0).h w0 ρ' (c ops.toList.length).h w' → FR ρ' n ds (c ops.toList.length).tm a' → Sc (c ops.toList.length) → Q .normal a' w') :
 ∀ (r D : List Nat) (p : Nat) (ρ : Ren) (tm : Tr Value) (w : World) (a : Act), Sched ops.toList D r → Closed ops.toList D → Inv E B ops.toList c ρ0 w0 D p ρ tm w → FR ρ n ds tm a → wpOpsIn (Wd rd) 0 E.P ops Q r a w
 | [], D, p, ρ, tm, w, a, hS, hD, I, F => by
   have hle := I.le
   obtain ⟨k, hk⟩ : ∃ k, ops.toList.length = p + k := ⟨ops.toList.length - p, by omega⟩
   obtain ⟨s, _⟩ := W.push hB I k (by omega) (by
    intro e o h1 h2 h3
    cases h4 : isF E.P o with
    | false => rfl
    | true =>
      have := (I.effs e o h3 h4).1 (hS e (by omega)); omega) (by
    intro j o h1 h2 h3 h4
    exact hS j (by omega))
   rw [← hk] at s
   have hfg : ∀ t, fget tm t = fget (c ops.toList.length).tm t := by
    intro t
    have C := W.canon ops.toList.length (Nat.le_refl _)
    by_cases hx : ∃ (j : Nat) (o' : Oper), ops.toList[j]? = some o' ∧ o'.dst = some t
    ·obtain ⟨j, o', hj, hd⟩ := hx
     have hjl : j < ops.toList.length := (List.getElem?_eq_some_iff.1 hj).1
     rw [(I.fr t).1 j o' (hS j hjl) hj hd, (C t).1 j o' (by simpa using hjl) hj hd]
    ·rw [(I.fr t).2 (fun j o' _ hj hd => hx ⟨j, o', hj, hd⟩), (C t).2 (fun j o' _ hj hd => hx ⟨j, o', hj, hd⟩)]
   refine hq ρ a w s ⟨F.defers, F.size, fun t ht => by rw [F.val t ht, hfg t]⟩ fun t => ?_
   rw [← hfg t]
   refine sc_of_live (D := D) ?_ _ (I.scq t)
   intro b hb
   simp only [live, inSpan, Bool.or_eq_true, List.any_eq_true, Bool.and_eq_true, decide_eq_true_eq] at hb
   rcases hb with hb | ⟨k', hk', h3, h4⟩
   ·have := W.next_le' (a := 0) (b := ops.toList.length) (by omega) (Nat.le_refl _); omega
   ·have := I.bd k' hk'
    have := W.next_le' (a := k' + 1) (b := ops.toList.length) (by omega) (Nat.le_refl _); omega
 | i :: r, D, p, ρ, tm, w, a, hS, hD, I, F => by
   obtain ⟨hlt, hni, hr, hS'⟩ := hS
   have ho : ops.toList[i]? = some ops.toList[i] := List.getElem?_eq_getElem hlt
   generalize ops.toList[i] = o at ho
   have ho' : ops[i]? = some o := by rw [← Array.getElem?_toList]; exact ho
   have hall : ∀ o, o ∈ ops → operOk E.base n o = true := by
    intro o ho
    simp only [opsOk, List.all_eq_true] at hok
    exact hok o (by simpa using ho)
   have hoo := hall o (Array.mem_of_getElem? ho')
   simp only [operOk, Bool.and_eq_true, List.all_eq_true] at hoo
   have hopd : ∀ x, x ∈ o.op.operands → opdOk E.base n x = true := fun x hx => hoo.1 x (by simpa using hx)
   have hw := wanted_eq F (ops := ops) (fun o ho => by have := hall o ho; simp only [operOk, Bool.and_eq_true] at this; exact this.2) o
   have hag := W.agree hD I.fr ho hni hr
   have hopa := opd_agree hag
   have hwa := awanted_agree hag
   simp only [wpOpsIn, ho', hw]
   rw [hwa]
   obtain ⟨v, hv, hcase⟩ := aop1_tm (W.run i o ho)
   have hC' := closed_cons hD hr
   have eu : ∀ ρ, ren ρ undef = undef := fun ρ => by simp [undef, ren, renA_eq]
   have go := run_draw2 (rd := rd) hcall hok W hB hq r (i :: D)
   rcases hcase with ⟨hwt, ha⟩ | ⟨hwt, rfl, hh⟩
   ·rw [hwt]
    simp only [if_true]
    have hnd := aop_notDefer ha
    have hro : (Wd rd).round = rd := rfl
    have hex : execOp a.eval o = execOp (fun x => ren ρ (opd (c i).tm x)) o := execOp_congr (aop_notSelect ha) fun x hx => by rw [eval_opd I.st.hr F (hopd x hx), hopa x hx]
    cases hF : isF E.P o with
    | true =>
      obtain ⟨hip, s, _⟩ := I.atE W hB hD ho hni hr hF
      refine run_aop (s := c i) hcall ha s.hr (fun x hx => W.opds i o x ho (.inl hF) hwt hx) hex ?_ rd
      intro ρ' w' t hsv
      obtain ⟨ρ'', I', h1, h2⟩ := I.eff W hB hD ho hni hr hF hv t
      refine go (i + 1) ρ'' _ w' _ hS' hC' I' ?_
      have := F.putQ h1 I.scq hoo.2 v
      rw [ren_congr ρ' ρ'' _ h2 v hsv] at this
      exact this
    | false =>
      cases hA : isA E.P o with
      | true =>
        obtain ⟨mk, ob, h1, h2, h3⟩ := alloc_h hA ha
        obtain ⟨cc, g1, g2, g3, g4⟩ := run_aalloc (P := E.P) (ρ := ρ) (w := w) (n := (c i).h.next) (fun x hx => W.opds i o x ho (.inr hA) hwt hx) h1
        obtain ⟨I', h4⟩ := I.alloc W hD ho hni hr hA hwt hv h1 h3 g2 g3
        refine ⟨fun _ _ => trivial, ?_⟩
        rw [hro, Oper.semAt_eq rd a.eval o hnd, hex, g1]
        rw [h2] at I'
        exact go p _ _ _ _ hS' hC' I' (F.putQ h4 I.scq hoo.2 _)
      | false =>
        have I' := I.quiet W hD ho hni hr hF (fun h => by rw [hA] at h; cases h) hv
        have F' := F.putQ (ρ' := ρ) (fun _ _ => rfl) I.scq hoo.2 v
        have fin : o.wpIn (Wd rd) 0 E.P a w (fun a' w' => wpOpsIn (Wd rd) 0 E.P ops Q r a' w') Q := by
         have hq := quiet_h (isE_of hF hA) (W.run i o ho)
         rw [hq] at ha
         have hread : isR E.P o = true → aread E (c p).h (opd (c i).tm) o.op = aread E (c i).h (opd (c i).tm) o.op := by
          intro hR
          refine W.reads i o p ho hR hwt ?_ ?_
          ·rcases I.form with h | ⟨e, oe, h1, h2, h3⟩
           ·exact .inl h
           ·refine .inr ⟨e, oe, h1, h2, h3, ?_⟩
            cases h4 : bef (masks ops.toList []) i e with
            | false => rfl
            | true =>
              have heD := (I.effs e oe h1 h2).2 (by omega)
              exact absurd (bef_done hD _ _ heD h4) hni
          ·intro e oe h1 h2 h3
           exact (I.effs e oe h1 h2).1 (bef_ready hD hr h3)
         have hq2 := quiet_op (call := call) (tm := (c i).tm) (h := (c p).h) (isE_of hF hA) (fun _ _ => rfl) ha hread
         refine ⟨fun _ _ => trivial, ?_⟩
         rw [hro, Oper.semAt_eq rd a.eval o hnd, hex]
         unfold aop at hq2
         have hE := isE_of hF hA
         unfold isE at hE
         cases hk : kindOf E.P o.op <;> simp only [hk] at hq2 hE
         ·cases hp : apure E.P (opd (c i).tm) o.op with
          | none => simp [hp] at hq2
          | some v' =>
            simp [hp] at hq2
            subst hq2
            rw [run_apure (ρ := ρ) hp w]
            exact go p ρ _ w _ hS' hC' I' F'
         ·cases hp : aread E (c p).h (opd (c i).tm) o.op with
          | none => simp [hp] at hq2
          | some v' =>
            simp [hp] at hq2
            subst hq2
            obtain ⟨h1, _⟩ := run_aread I.st.hr hp
            rw [h1]
            exact go p ρ _ w _ hS' hC' I' F'
         ·cases hE
         ·cases hE
        exact fin
   ·rw [hwt]
    simp only [Bool.false_eq_true, if_false]
    refine ⟨fun _ _ => trivial, ?_⟩
    cases hF : isF E.P o with
    | true =>
      obtain ⟨hip, s, _⟩ := I.atE W hB hD ho hni hr hF
      have t : Step E B ρ (c i).h w ρ (c (i + 1)).h w := by rw [hh]; exact Step.refl s.hr
      obtain ⟨ρ'', I', h1, h2⟩ := I.eff W hB hD ho hni hr hF hv t
      refine go (i + 1) ρ'' _ w _ hS' hC' I' ?_
      have := F.putQ h1 I.scq hoo.2 undef
      rw [eu] at this
      exact this
    | false =>
      have I' := I.quiet W hD ho hni hr hF (fun _ => hwt) hv
      have F' := F.putQ (ρ' := ρ) (fun _ _ => rfl) I.scq hoo.2 undef
      rw [eu] at F'
      exact go p ρ _ w _ hS' hC' I' F'
end Go.Tm
/- The engine, twenty-seventh part: the look at regions that draw; the run of code. -/
namespace Go.Tm
def dstat2 (P : Program) (O : List Oper) (M : List Nat) : Bool :=
 (O.zipIdx.all fun x => (preds x.1).all fun p => decide (p < x.2)) &&
 nodupB (O.filterMap (·.dst)) &&
 (O.zipIdx.all fun x => (rdTmps O x.1).all fun t => O.zipIdx.all fun y => (match y.1.dst with
  | some d => !(d == t)
  | none => true) || (bef M y.2 x.2 || (bef M x.2 y.2 || x.2 == y.2))) &&
 ((O.zipIdx.filter fun x => isF P x.1).all fun y =>
  ((O.zipIdx.filter fun x => isF P x.1).all fun x => !decide (x.2 < y.2) || bef M x.2 y.2) &&
  ((O.zipIdx.filter fun x => isA P x.1).all fun x => !decide (x.2 < y.2) || bef M x.2 y.2))
def readsOk (E : Env) (M : List Nat) (c : Nat → St) (fs : List (Oper × Nat)) (o : Oper) (i : Nat) : Bool :=
 (0 :: (fs.filter fun e => !bef M i e.2).map fun e => e.2 + 1).all fun p =>
  (fs.any fun e => bef M e.2 i && !decide (e.2 < p)) ||
   (match aread E (c p).h (opd (c i).tm) o.op, aread E (c i).h (opd (c i).tm) o.op with
    | some u, some v => veq u v
    | _, _ => false)
def ddyn2 (E : Env) (O : List Oper) (M : List Nat) (c : Nat → St) : Bool :=
 ((O.zipIdx.filter fun x => isR E.P x.1).all fun x => !awanted O (c x.2).tm x.1 || readsOk E M c (O.zipIdx.filter fun x => isF E.P x.1) x.1 x.2) &&
 (O.zipIdx.all fun x => decide ((c x.2).h.next ≤ (c (x.2 + 1)).h.next)) &&
 ((O.zipIdx.filter fun x => isF E.P x.1 || isA E.P x.1).all fun x => !awanted O (c x.2).tm x.1 || x.1.op.operands.toList.all fun y => sc (c x.2).h.next (opd (c x.2).tm y)) &&
 (O.zipIdx.all fun x => match x.1.dst with
  | some d => scQ (live c (x.2 :: befs M x.2)) (fget (c (x.2 + 1)).tm d)
  | none => true) &&
 ((O.zipIdx.filter fun x => isA E.P x.1).all fun x => !awanted O (c x.2).tm x.1 || (match aalloc E.P (opd (c x.2).tm) x.1.op with
  | some p => scOQb (live c (befs M x.2)) p.2
  | none => false))
theorem draw2_of {E : Env} {call : Caller} {O : List Oper} {s : St} {tr : List St} (ht : trace E call O O s = some tr) (h1 : dstat2 E.P O (masks O []) = true) (h2 : ddyn2 E O (masks O []) (sget tr s) = true) :
 Draw2 E call O (sget tr s) := by
 obtain ⟨t0, t1⟩ := trace_at O s tr ht
 simp only [dstat2, Bool.and_eq_true, List.all_eq_true, List.mem_filter] at h1
 obtain ⟨⟨⟨a1, a2⟩, a3⟩, a4⟩ := h1
 simp only [ddyn2, Bool.and_eq_true, List.all_eq_true, List.mem_filter] at h2
 obtain ⟨⟨⟨⟨b1, b2⟩, b3⟩, b4⟩, b5⟩ := h2
 refine ⟨?_, ?_, nodupB_at O a2, ?_, ?_, ?_, ?_, ?_, ?_, ?_, ?_⟩
 ·intro i o ho
  obtain ⟨s1, s2, g1, g2, g3⟩ := t1 i o ho
  have e1 : sget tr s i = s1 := by simp [sget, List.getD, g1]
  have e2 : sget tr s (i + 1) = s2 := by simp [sget, List.getD, g2]
  rw [e1, e2]; exact g3
 ·intro i o ho p hp
  have := a1 _ (mem_ix ho) p hp
  simpa using this
 ·intro i o t j o' ho ht' hj hd
  have := a3 _ (mem_ix ho) t ht' _ (mem_ix hj)
  simp only [hd, Bool.or_eq_true, Bool.not_eq_true', beq_eq_false_iff_ne, ne_eq, not_true_eq_false, false_or, beq_iff_eq] at this
  exact this
 ·intro a b o o' hab ha hb hE hE'
  have := (a4 _ ⟨mem_ix hb, hE'⟩).1 _ ⟨mem_ix ha, hE⟩
  simp only [Bool.or_eq_true, Bool.not_eq_true', decide_eq_false_iff_not] at this
  exact this.resolve_left (fun h => h hab)
 ·intro a b o o' hab ha hb hE hE'
  have := (a4 _ ⟨mem_ix hb, hE'⟩).2 _ ⟨mem_ix ha, hE⟩
  simp only [Bool.or_eq_true, Bool.not_eq_true', decide_eq_false_iff_not] at this
  exact this.resolve_left (fun h => h hab)
 ·intro i o p ho hR hw hp hbe
  have := b1 _ ⟨mem_ix ho, hR⟩
  simp only [hw, Bool.not_true, Bool.false_or, readsOk, List.all_eq_true] at this
  have := this p (by
   rcases hp with rfl | ⟨e, oe, h1, h2, rfl, h3⟩
   ·simp
   ·refine List.mem_cons_of_mem _ (List.mem_map.2 ⟨(oe, e), List.mem_filter.2 ⟨List.mem_filter.2 ⟨mem_ix h1, h2⟩, by simp [h3]⟩, rfl⟩))
  simp only [Bool.or_eq_true] at this
  rcases this with h | h
  ·simp only [List.any_eq_true, List.mem_filter, Bool.and_eq_true, Bool.not_eq_true', decide_eq_false_iff_not] at h
   obtain ⟨⟨oe, e⟩, ⟨h1, h2⟩, h3, h4⟩ := h
   have := List.mk_mem_zipIdx_iff_getElem?.1 h1
   exact absurd (hbe e oe this h2 h3) h4
  ·split at h
   ·rename_i u v g1 g2
    rw [g1, g2, veq_eq _ _ h]
   ·cases h
 ·intro i hi
  have := b2 _ (mem_ix (List.getElem?_eq_getElem hi))
  simpa using this
 ·intro i o x ho hk hw hx
  have := b3 _ ⟨mem_ix ho, by simpa using hk⟩
  simp only [hw, Bool.not_true, Bool.false_or, List.all_eq_true] at this
  exact this x (by simpa using hx)
 ·intro i o d ho hd
  have := b4 _ (mem_ix ho)
  simp only [hd] at this
  exact this
 ·intro i o mk ob ho hA hw ha
  have := b5 _ ⟨mem_ix ho, hA⟩
  simp only [hw, Bool.not_true, Bool.false_or, ha] at this
  exact scOQ_of this
def adrawX (E : Env) (call : Caller) (O : List Oper) (s : St) : Option St :=
 match trace E call O O s with
 | some tr =>
   if dstat E.P O (masks O []) (spOf E.P O (masks O [])) = true then
    (if ddyn E O (masks O []) (spOf E.P O (masks O [])) (sget tr s) = true then some (sget tr s O.length) else none)
   else if dstat2 E.P O (masks O []) = true ∧ ddyn2 E O (masks O []) (sget tr s) = true then some (sget tr s O.length) else none
 | none => none
theorem adrawX_cases {E : Env} {call : Caller} {O : List Oper} {s s' : St} (h : adrawX E call O s = some s') : adraw E call O s = some s' ∨ ∃ c, Draw2 E call O c ∧ c 0 = s ∧ c O.length = s' := by
 unfold adrawX at h
 cases ht : trace E call O O s with
 | none => simp [ht] at h
 | some tr =>
   simp only [ht] at h
   split at h
   ·rename_i h1
    split at h
    ·rename_i h2
     left
     unfold adraw
     simp only [ht]
     rw [if_pos ⟨h1, h2⟩]; exact h
    ·cases h
   ·split at h
    ·rename_i h1
     right
     refine ⟨sget tr s, draw2_of ht h1.1 h1.2, ?_, by simpa using h⟩
     have := (trace_at O s tr ht).1
     simp [sget, List.getD, this]
    ·cases h
theorem inv_start {E : Env} {B : Nat} {O : List Oper} {c : Nat → St} {ρ : Ren} {w : World} (H : HR E B ρ (c 0).h w) (S : Sc (c 0)) : Inv E B O c ρ w [] 0 ρ (c 0).tm w where
 st := Step.refl H
 bd := fun k hk => by simp at hk
 le := Nat.zero_le _
 form := .inl rfl
 effs := fun e o _ _ => by simp
 allocs := fun j o _ _ h => by omega
 early := fun j o _ _ _ h => by simp at h
 dist := fun j k o o' _ _ _ h => by simp at h
 fr := fun t => ⟨fun j o hj => by simp at hj, fun _ => rfl⟩
 scq := fun t => by
  have := S t
  rw [← sc_scQ] at this
  exact scQ_imp _ _ (fun b hb => by simp only [live, hb, Bool.true_or]) _ this
def flat : Code → Bool
 | .rangeFunc _ _ _ _ => false
 | .seq a b => flat a && flat b
 | .cond _ a b => flat a && flat b
 | .block _ b => flat b
 | .loop b => flat b
 | .scope b => flat b
 | _ => true
def arange (run : Code → St → Option (Ex × St)) (it : Heap → Nat → Option (Option Value)) (p : Nat) (assign body : Code) (tm : Tr Value) : Nat → Nat → Heap → Option (Ex × St)
 | 0, _, _ => none
 | k + 1, i, h => match it h i with
   | none => none
   | some none => some (.normal, ⟨tm, h⟩)
   | some (some v) => match run assign ⟨tm.set p (some v), h⟩ with
     | some (.normal, s1) => match run body s1 with
       | some (.normal, s2) => arange run it p assign body tm k (i + 1) s2.h
       | some (e, s2) => some (e, ⟨tm, s2.h⟩)
       | none => none
     | _ => none
def aiter (E : Env) (g : Value) : Option (Heap → Nat → Option (Option Value)) :=
 match g with
 | .func (.func f) ⟨[]⟩ cap => some (E.iter f cap.toList)
 | _ => none
def aexec (E : Env) : Nat → Code → St → Option (Ex × St)
 | 0, _, _ => none
 | n + 1, c, s =>
   match c with
   | .skip => some (.normal, s)
   | .label _ => some (.normal, s)
   | .ret => some (.ret, s)
   | .exit id => some (.exit id, s)
   | .goto l => some (.goto l, s)
   | .seq a b => match aexec E n a s with
     | some (.normal, s') => aexec E n b s'
     | r => r
   | .cond c a b => match opd s.tm c with
     | .bool true => aexec E n a s
     | .bool false => aexec E n b s
     | _ => none
   | .block id b => match aexec E n b s with
     | some (.exit id', s') => if id' = id then some (.normal, s') else some (.exit id', s')
     | r => r
   | .loop b => arounds (aexec E n b) n s
   | .scope b => ascope (aexec E n) b n b s
   | .region _ ops false => (aops E (acallBy E (aexec E n)) ops.toList ops.toList s).map fun s' => (.normal, s')
   | .region _ ops true => (adrawX E (acallBy E (aexec E n)) ops.toList s).map fun s' => (.normal, s')
   | .rangeFunc g ps assign body => match aiter E (opd s.tm g), ps.toList with
     | some it, [p] => if flat assign = true ∧ flat body = true then arange (aexec E n) it p assign body s.tm n 0 s.h else none
     | _, _ => none
   | _ => none
def acall (E : Env) (n : Nat) (f : FuncId) (args : List Value) (h : Heap) : Option (Value × Heap) := acallBy E (aexec E n) f args h
end Go.Tm
namespace Go.Tm
open Go.RowKit (Below)
def codeOk (base n : Nat) : Code → Bool
 | .region _ ops _ => opsOk base n ops
 | .seq a b => codeOk base n a && codeOk base n b
 | .cond c a b => opdOk base n c && (codeOk base n a && codeOk base n b)
 | .block _ b => codeOk base n b
 | .loop b => codeOk base n b
 | .scope b => codeOk base n b
 | .rangeFunc g ps assign body => opdOk base n g && (ps.toList.all (fun p => decide (p < n)) && (codeOk base n assign && codeOk base n body))
 | _ => true
def resOk (n : Nat) : ResultVar → Bool
 | .tmp t => decide (t < n)
 | .cell a _ => decide (a < n)
def funcOk (base : Nat) (fn : Func) : Bool :=
 match fn.body with
 | some b => codeOk base fn.ntmps b && fn.results.toList.all (resOk fn.ntmps)
 | none => true
def progOk (E : Env) : Bool := E.P.funcs.toList.all (funcOk E.base)
theorem opsOk_mono {base base' n : Nat} (h : base ≤ base') {ops : Array Oper} (H : opsOk base n ops = true) : opsOk base' n ops = true := by
 unfold opsOk at H ⊢
 rw [List.all_eq_true] at H ⊢
 intro o ho
 have := H o ho
 unfold operOk at this ⊢
 rw [Bool.and_eq_true] at this ⊢
 refine ⟨?_, this.2⟩
 rw [List.all_eq_true] at this ⊢
 intro x hx
 have := this.1 x hx
 cases x with
 | global g => simp only [opdOk, decide_eq_true_eq] at this ⊢; omega
 | tmp t => exact this
 | const v => exact this
 | func f => exact this
theorem opdOk_mono {base base' n : Nat} (h : base ≤ base') {x : Operand} (H : opdOk base n x = true) : opdOk base' n x = true := by
 cases x with
 | global g => simp only [opdOk, decide_eq_true_eq] at H ⊢; omega
 | tmp t => exact H
 | const v => exact H
 | func f => exact H
theorem codeOk_mono {base base' n : Nat} (h : base ≤ base') : ∀ (c : Code), codeOk base n c = true → codeOk base' n c = true := by
 intro c
 induction c with
 | region id ops d => intro H; exact opsOk_mono h H
 | seq a b iha ihb => intro H; simp only [codeOk, Bool.and_eq_true] at H ⊢; exact ⟨iha H.1, ihb H.2⟩
 | cond c a b iha ihb =>
   intro H
   simp only [codeOk, Bool.and_eq_true] at H ⊢
   refine ⟨?_, iha H.2.1, ihb H.2.2⟩
   exact opdOk_mono h H.1
 | block id b ih => exact ih
 | loop b ih => exact ih
 | scope b ih => exact ih
 | rangeFunc g ps x y ihx ihy =>
   intro H
   simp only [codeOk, Bool.and_eq_true] at H ⊢
   exact ⟨opdOk_mono h H.1, H.2.1, ihx H.2.2.1, ihy H.2.2.2⟩
 | _ => intro H; rfl
theorem progOk_mono {E E' : Env} (hP : E'.P = E.P) (h : E.base ≤ E'.base) (H : progOk E = true) : progOk E' = true := by
 unfold progOk at H ⊢
 rw [List.all_eq_true] at H ⊢
 intro fn hfn
 rw [hP] at hfn
 have := H fn hfn
 unfold funcOk at this ⊢
 split at this
 ·rename_i b hb
  rw [Bool.and_eq_true] at this ⊢
  exact ⟨codeOk_mono h _ this.1, this.2⟩
 ·rfl
theorem codeOk_label {base n : Nat} : ∀ {c : Code} {l : Nat} {r : Code}, findLabel c l = some r → codeOk base n c = true → codeOk base n r = true
 | .seq a b, l, r, h, hc => by
   simp only [codeOk, Bool.and_eq_true] at hc
   unfold findLabel at h
   split at h
   ·rename_i rest hr
    injection h with h; subst h
    simp only [codeOk, Bool.and_eq_true]
    exact ⟨codeOk_label hr hc.1, hc.2⟩
   ·exact codeOk_label h hc.2
 | .label l', l, r, h, _ => by
   unfold findLabel at h
   split at h
   ·injection h with h; subst h; rfl
   ·cases h
 | .skip, _, _, h, _ => by simp [findLabel] at h
 | .region _ _ _, _, _, h, _ => by simp [findLabel] at h
 | .cond _ _ _, _, _, h, _ => by simp [findLabel] at h
 | .block _ _, _, _, h, _ => by simp [findLabel] at h
 | .loop _, _, _, h, _ => by simp [findLabel] at h
 | .rangeFunc _ _ _ _, _, _, h, _ => by simp [findLabel] at h
 | .exit _, _, _, h, _ => by simp [findLabel] at h
 | .scope _, _, _, h, _ => by simp [findLabel] at h
 | .goto _, _, _, h, _ => by simp [findLabel] at h
 | .ret, _, _, h, _ => by simp [findLabel] at h
 | .refuse _, _, _, h, _ => by simp [findLabel] at h
theorem flat_label : ∀ {c : Code} {l : Nat} {r : Code}, findLabel c l = some r → flat c = true → flat r = true
 | .seq a b, l, r, h, hc => by
   simp only [flat, Bool.and_eq_true] at hc
   unfold findLabel at h
   split at h
   ·rename_i rest hr
    injection h with h; subst h
    simp only [flat, Bool.and_eq_true]
    exact ⟨flat_label hr hc.1, hc.2⟩
   ·exact flat_label h hc.2
 | .label l', l, r, h, _ => by
   unfold findLabel at h
   split at h
   ·injection h with h; subst h; rfl
   ·cases h
 | .skip, _, _, h, _ => by simp [findLabel] at h
 | .region _ _ _, _, _, h, _ => by simp [findLabel] at h
 | .cond _ _ _, _, _, h, _ => by simp [findLabel] at h
 | .block _ _, _, _, h, _ => by simp [findLabel] at h
 | .loop _, _, _, h, _ => by simp [findLabel] at h
 | .rangeFunc _ _ _ _, _, _, h, _ => by simp [findLabel] at h
 | .exit _, _, _, h, _ => by simp [findLabel] at h
 | .scope _, _, _, h, _ => by simp [findLabel] at h
 | .goto _, _, _, h, _ => by simp [findLabel] at h
 | .ret, _, _, h, _ => by simp [findLabel] at h
 | .refuse _, _, _, h, _ => by simp [findLabel] at h
def hops (rd : Option Nat) (P : Program) (body : Code) (Q : Exit → Act → World → Prop) : Nat → Code → Act → World → Prop
 | 0, _, _, _ => False
 | n + 1, c, a, w => c.wpIn (Wd rd) 0 P (fun e a w => match e with
  | .goto l => ∃ rest, findLabel body l = some rest ∧ hops rd P body Q n rest a w
  | e => Q e a w) a w
theorem stepR_scope {P : Program} {b : Frame} {a : Act} {k : List Item} {cs : List Frame} {w : World} {c : Code} : step P (lone (b.atR a (.code (.scope c) :: k)) cs w) = .next (lone (b.atR a (.code c :: .inScope c :: k)) cs w) :=
 step_lone_go (by simp [stepG, stepG.exec, Frame.atR])
theorem stepR_inScope {P : Program} {b : Frame} {a : Act} {k : List Item} {cs : List Frame} {w : World} {c : Code} : step P (lone (b.atR a (.inScope c :: k)) cs w) = .next (lone (b.atR a k) cs w) :=
 step_lone_go (by simp [stepG, stepG.exec, Frame.atR])
theorem wp_scope_hops {rd : Option Nat} {P : Program} {body : Code} {Q : Exit → Act → World → Prop} (n : Nat) {a : Act} {w : World} (h : hops rd P body Q n body a w) : (Code.scope body).wpIn (Wd rd) 0 P Q a w := by
 intro b k cs hro hb hr
 have key : ∀ n c a w, hops rd P body Q n c a w → ∃ e a' w', Q e a' w' ∧ ArrivesIn (Machine.fenced P (Wd rd)) P (lone (b.atR a (.code c :: .inScope body :: k)) cs w) b k cs e a' w' := by
  intro n
  induction n with
  | zero => intro c a w h; exact h.elim
  | succ n ih =>
    intro c a w h
    obtain ⟨e, a₁, w₁, hq, harr⟩ := h b (.inScope body :: k) cs hro hb hr
    cases e with
    | normal => exact ⟨.normal, a₁, w₁, hq, StepsIn.trans harr (.one (fenced_calm hb hr rfl) stepR_inScope)⟩
    | exit id => exact ⟨.exit id, a₁, w₁, hq, fun k' hk => harr.1 k' (by simp [exitTo, hk]), fun h1 hk => harr.2 h1 (by simp [exitTo, hk])⟩
    | goto l =>
      obtain ⟨rest, hf, hh⟩ := hq
      obtain ⟨e₂, a₂, w₂, hq₂, harr₂⟩ := ih _ _ _ hh
      exact ⟨e₂, a₂, w₂, hq₂, .of_steps (harr.1 _ (by simp [gotoIn, hf])) harr₂⟩
    | ret => exact ⟨_, a₁, w₁, hq, harr⟩
    | panic ch => exact ⟨_, a₁, w₁, hq, harr⟩
    | outgrown => exact ⟨_, a₁, w₁, hq, harr⟩
 obtain ⟨e, a', w', hq, harr⟩ := key n body a w h
 exact ⟨e, a', w', hq, .of_steps (.one (fenced_calm hb hr rfl) stepR_scope) harr⟩
def exq : Ex → Exit
 | .normal => .normal
 | .ret => .ret
 | .exit id => .exit id
 | .goto l => .goto l
theorem Step.below {E : Env} {B : Nat} {ρ : Ren} {h : Heap} {w w' : World} (H : HR E B ρ h w) (hb : Below w.heap.size w w') : Step E B ρ h w ρ h w' where
 hr := {
  base_le := H.base_le
  ro_B := H.ro_B
  B_le := Nat.le_trans H.B_le hb.size
  fix := H.fix
  ro := fun b o hlt ho => by
   have h1 := H.ro b o hlt ho
   rw [hb.block b (Nat.lt_of_lt_of_le (H.ro_B b o hlt ho) H.B_le)]; exact h1
  live := fun b o hg => by
   obtain ⟨h1, h2, h3, h4, c, h5, h6⟩ := H.live b o hg
   exact ⟨h1, h2, h3, h4, c, by rw [hb.block _ (H.lt hg)]; exact h5, h6⟩
  inj := H.inj }
 ext := fun _ _ => rfl
 le := Nat.le_refl _
 frame := fun r hr _ => hb.block r hr
 range := fun b o hg => .inl ⟨b, o, hg, rfl⟩
 size := hb.size
 os := hb.os
 tape := hb.tape
 output := hb.output
def isSide : Obj → Bool
 | .deferred _ => true
 | .loop _ => true
 | _ => false
theorem HR.notSide {E : Env} {B : Nat} {ρ : Ren} {h : Heap} {w : World} (H : HR E B ρ h w) {b : Nat} {o : AObj} (hb : h.get b = some o) {r : Nat} {c : Obj} (hr : w.heap[r]? = some c) (hs : isSide c = true) : (ρ b).r ≠ r := by
 rintro rfl
 obtain ⟨_, _, _, _, c', h5, h6⟩ := H.live b o hb
 rw [hr] at h5
 injection h5 with h5; subst h5
 cases o <;> cases c <;> simp [isSide, objR] at hs h6
theorem lt_of_heap {w : World} {r : Nat} {c : Obj} (h : w.heap[r]? = some c) : r < w.heap.size := (Array.getElem?_eq_some_iff.1 h).1
theorem Step.keeps {E : Env} {B : Nat} {ρ ρ' : Ren} {h h' : Heap} {w w' : World} (s : Step E B ρ h w ρ' h' w') (H : HR E B ρ h w) {r : Nat} {c : Obj} (hr : w.heap[r]? = some c) (hs : isSide c = true) : w'.heap[r]? = some c := by
 rw [s.frame r (lt_of_heap hr) (fun b o hb => H.notSide hb hr hs)]; exact hr
theorem Step.sideNew {E : Env} {B : Nat} {ρ : Ren} {h : Heap} {w : World} (H : HR E B ρ h w) (c : Obj) : Step E B ρ h w ρ h (w.alloc c) :=
 Step.below H ⟨rfl, rfl, rfl, by simp, fun i hi => by rw [heap_alloc, Array.getElem?_push, if_neg (by omega)]⟩
theorem Step.sidePut {E : Env} {B : Nat} {ρ0 ρ : Ren} {h0 h : Heap} {w0 w : World} (s : Step E B ρ0 h0 w0 ρ h w) (hB : B ≤ w0.heap.size) {r : Nat} {c : Obj} (hr : w.heap[r]? = some c) (hs : isSide c = true) (hge : w0.heap.size ≤ r) (c' : Obj) :
 Step E B ρ0 h0 w0 ρ h (w.putObj r c') where
 hr := {
  base_le := s.hr.base_le
  ro_B := s.hr.ro_B
  B_le := by rw [World.putObj_size]; exact s.hr.B_le
  fix := s.hr.fix
  ro := fun b o hlt ho => by
   have := s.hr.ro_B b o hlt ho
   rw [World.putObj_heap_other (by omega)]; exact s.hr.ro b o hlt ho
  live := fun b o hb => by
   obtain ⟨h1, h2, h3, h4, c2, h5, h6⟩ := s.hr.live b o hb
   exact ⟨h1, h2, h3, h4, c2, by rw [World.putObj_heap_other (s.hr.notSide hb hr hs)]; exact h5, h6⟩
  inj := s.hr.inj }
 ext := s.ext
 le := s.le
 frame := fun k hk hn => by rw [World.putObj_heap_other (by omega)]; exact s.frame k hk hn
 range := s.range
 size := by rw [World.putObj_size]; exact s.size
 os := s.os
 tape := s.tape
 output := s.output
def mkD (rs : List Nat) : List Deferred := rs.map fun r => { target := .collected r, args := #[] }
def Marks (w w' : World) (rs : List Nat) : Prop := rs.Nodup ∧ ∀ r, r ∈ rs → w.heap.size ≤ r ∧ w'.heap[r]? = some (.deferred (some []))
def Post (E : Env) (B n : Nat) (ds : List Deferred) (ρ : Ren) (s : St) (w : World) (e : Ex) (s' : St) : Exit → Act → World → Prop :=
 fun e' a' w' => e' = exq e ∧ ∃ ρ' rs, FR ρ' n (mkD rs ++ ds) s'.tm a' ∧ Step E B ρ s.h w ρ' s'.h w' ∧ Sc s' ∧ Marks w w' rs
def RunOk (E : Env) (B n : Nat) (run : Code → St → Option (Ex × St)) : Prop :=
 ∀ rd c s e s', run c s = some (e, s') → codeOk E.base n c = true → (rd = none ∨ flat c = true) → ∀ ρ w a ds, HR E B ρ s.h w → FR ρ n ds s.tm a → Sc s → c.wpIn (Wd rd) 0 E.P (Post E B n ds ρ s w e s') a w
theorem Post.trans {E : Env} {B n : Nat} {ds : List Deferred} {ρ ρ' : Ren} {s s1 s' : St} {w w1 : World} {e : Ex} {x : Exit} {a : Act} {w2 : World} {rs : List Nat} (h1 : Step E B ρ s.h w ρ' s1.h w1) (hm : Marks w w1 rs) (h : Post E B n (mkD rs ++ ds) ρ' s1 w1 e s' x a w2) : Post E B n ds ρ s w e s' x a w2 := by
 obtain ⟨he, ρ'', rs2, hf, hs, hsc, hm2⟩ := h
 refine ⟨he, ρ'', rs2 ++ rs, by simpa [mkD] using hf, h1.trans hs, hsc, ?_, ?_⟩
 ·refine List.nodup_append.2 ⟨hm2.1, hm.1, ?_⟩
  rintro r hr r' hr' rfl
  have := (hm2.2 r hr).1
  have := lt_of_heap (hm.2 r hr').2
  omega
 ·intro r hr
  rcases List.mem_append.1 hr with hr | hr
  ·have := hm2.2 r hr
   exact ⟨Nat.le_trans h1.size this.1, this.2⟩
  ·exact ⟨(hm.2 r hr).1, hs.keeps h1.hr (hm.2 r hr).2 rfl⟩
theorem rounds_mono {F : Fence} {n : Nat} {P : Program} {c : Code} {Q Q' : Exit → Act → World → Prop} (hq : ∀ e a w, Q e a w → Q' e a w) : ∀ (m : Nat) (a : Act) (w : World), Code.roundsIn F n P c Q m a w → Code.roundsIn F n P c Q' m a w
 | 0, _, _, h => h
 | m + 1, a, w, h => by
   rw [roundsIn_succ] at h ⊢
   refine wpIn_mono h ?_
   intro x a3 w3 hx
   cases x <;> simp only [Exit.then] at hx ⊢ <;> first | exact rounds_mono hq m _ _ hx | exact hq _ _ _ hx
theorem rounds_ok {E : Env} {B n : Nat} {run : Code → St → Option (Ex × St)} (hr : RunOk E B n run) {rd : Option Nat} {b : Code} (hb : codeOk E.base n b = true) (hfl : rd = none ∨ flat b = true) :
 ∀ (k : Nat) (s : St) (e : Ex) (s' : St), arounds (run b) k s = some (e, s') → ∀ ρ w a ds, HR E B ρ s.h w → FR ρ n ds s.tm a → Sc s → Code.roundsIn (Wd rd) 0 E.P b (Post E B n ds ρ s w e s') k a w
 | 0, s, e, s', h, _, _, _, _, _, _, _ => by simp [arounds] at h
 | k + 1, s, e, s', h, ρ, w, a, ds, H, F, S => by
   simp only [arounds] at h
   rw [roundsIn_succ]
   cases hx : run b s with
   | none => simp [hx] at h
   | some r =>
     obtain ⟨e1, s1⟩ := r
     have h1 := hr rd b s e1 s1 hx hb hfl ρ w a ds H F S
     cases e1 with
     | normal =>
       simp only [hx] at h
       refine wpIn_mono h1 ?_
       rintro x a1 w1 ⟨rfl, ρ1, rs, F1, st1, S1, hm⟩
       simp only [exq, Exit.then]
       have ih := rounds_ok hr hb hfl k s1 e s' h ρ1 w1 a1 _ st1.hr F1 S1
       exact rounds_mono (fun _ _ _ hx => Post.trans st1 hm hx) _ _ _ ih
     | ret =>
       simp only [hx, Option.some.injEq, Prod.mk.injEq] at h
       obtain ⟨rfl, rfl⟩ := h
       exact wpIn_mono h1 (by rintro x a1 w1 ⟨rfl, hh⟩; exact ⟨rfl, hh⟩)
     | exit id =>
       simp only [hx, Option.some.injEq, Prod.mk.injEq] at h
       obtain ⟨rfl, rfl⟩ := h
       exact wpIn_mono h1 (by rintro x a1 w1 ⟨rfl, hh⟩; exact ⟨rfl, hh⟩)
     | goto l =>
       simp only [hx, Option.some.injEq, Prod.mk.injEq] at h
       obtain ⟨rfl, rfl⟩ := h
       exact wpIn_mono h1 (by rintro x a1 w1 ⟨rfl, hh⟩; exact ⟨rfl, hh⟩)
theorem hops_mono {rd : Option Nat} {P : Program} {body : Code} {Q Q' : Exit → Act → World → Prop} (hq : ∀ e a w, Q e a w → Q' e a w) : ∀ (m : Nat) (c : Code) (a : Act) (w : World), hops rd P body Q m c a w → hops rd P body Q' m c a w
 | 0, _, _, _, h => h
 | m + 1, c, a, w, h => by
   refine wpIn_mono h ?_
   intro e a w he
   cases e with
   | goto l =>
     obtain ⟨rest, h1, h2⟩ := he
     exact ⟨rest, h1, hops_mono hq m rest a w h2⟩
   | normal => exact hq _ _ _ he
   | exit id => exact hq _ _ _ he
   | ret => exact hq _ _ _ he
   | panic c => exact hq _ _ _ he
   | outgrown => exact hq _ _ _ he
theorem scope_ok {E : Env} {B n : Nat} {run : Code → St → Option (Ex × St)} (hr : RunOk E B n run) {rd : Option Nat} {body : Code} (hb : codeOk E.base n body = true) (hbf : rd = none ∨ flat body = true) :
 ∀ (k : Nat) (c : Code) (s : St) (e : Ex) (s' : St), codeOk E.base n c = true → (rd = none ∨ flat c = true) → ascope run body k c s = some (e, s') → ∀ ρ w a ds, HR E B ρ s.h w → FR ρ n ds s.tm a → Sc s → hops rd E.P body (Post E B n ds ρ s w e s') k c a w
 | 0, c, s, e, s', _, _, h, _, _, _, _, _, _, _ => by simp [ascope] at h
 | k + 1, c, s, e, s', hc, hcf, h, ρ, w, a, ds, H, F, S => by
   simp only [ascope] at h
   cases hx : run c s with
   | none => simp [hx] at h
   | some r =>
     obtain ⟨e1, s1⟩ := r
     have h1 := hr rd c s e1 s1 hx hc hcf ρ w a ds H F S
     cases e1 with
     | goto l =>
       simp only [hx] at h
       cases hf : findLabel body l with
       | none => simp [hf] at h
       | some rest =>
         simp only [hf] at h
         refine wpIn_mono h1 ?_
         rintro x a1 w1 ⟨rfl, ρ1, rs, F1, st1, S1, hm⟩
         simp only [exq]
         exact ⟨rest, hf, hops_mono (fun _ _ _ hh => Post.trans st1 hm hh) k rest a1 w1 (scope_ok hr hb hbf k rest s1 e s' (codeOk_label hf hb) (hbf.imp id (flat_label hf)) h ρ1 w1 a1 _ st1.hr F1 S1)⟩
     | normal =>
       simp only [hx, Option.some.injEq, Prod.mk.injEq] at h
       obtain ⟨rfl, rfl⟩ := h
       exact wpIn_mono h1 (by rintro x a1 w1 ⟨rfl, hh⟩; exact ⟨rfl, hh⟩)
     | ret =>
       simp only [hx, Option.some.injEq, Prod.mk.injEq] at h
       obtain ⟨rfl, rfl⟩ := h
       exact wpIn_mono h1 (by rintro x a1 w1 ⟨rfl, hh⟩; exact ⟨rfl, hh⟩)
     | exit id =>
       simp only [hx, Option.some.injEq, Prod.mk.injEq] at h
       obtain ⟨rfl, rfl⟩ := h
       exact wpIn_mono h1 (by rintro x a1 w1 ⟨rfl, hh⟩; exact ⟨rfl, hh⟩)
theorem fget_leaf (t : Nat) : fget .leaf t = undef := by simp [fget, Tr.get_leaf]
theorem fget_from : ∀ (l : List Value) (k : Nat) (tm : Tr Value) (t : Nat), fget (afrom k l tm) t = if k ≤ t then (match l[t - k]? with | some v => v | none => fget tm t) else fget tm t
 | [], k, tm, t => by simp [afrom]
 | v :: l, k, tm, t => by
   simp only [afrom]
   rw [fget_from l (k + 1), fget_set]
   by_cases h1 : k + 1 ≤ t
   ·rw [if_pos h1, if_neg (by omega), if_pos (by omega)]
    obtain ⟨j, rfl⟩ : ∃ j, t = k + 1 + j := ⟨t - (k + 1), by omega⟩
    rw [show k + 1 + j - (k + 1) = j by omega, show k + 1 + j - k = j + 1 by omega, List.getElem?_cons_succ]
   ·rw [if_neg h1]
    by_cases h2 : k = t
    ·subst h2; simp
    ·rw [if_neg h2, if_neg (by omega)]
def resVal (tmps : Array Value) : ResultVar → Sem Value
 | .tmp t => pure (tmps.getD t undef)
 | .cell b t => do loadVar t (← asAddr (tmps.getD b undef))
theorem results_eq (fn : Func) (tmps : Array Value) : results fn tmps = (do
 let vs ← fn.results.mapM (resVal tmps)
 pure (if h : vs.size = 1 then vs[0] else .tuple vs)) := by
 unfold results
 rfl
theorem run_aresults {E : Env} {B n : Nat} {ds : List Deferred} {ρ : Ren} {s : St} {a : Act} {w : World} (H : HR E B ρ s.h w) (F : FR ρ n ds s.tm a) : ∀ (l : List ResultVar) (r : List Value), l.all (resOk n) = true → aresults E s l = some r →
 (l.mapM (resVal a.tmps)).run E.P w = .ok (r.map (ren ρ)) w
 | [], r, _, h => by simp [aresults] at h; subst h; rfl
 | .tmp t :: l, r, hk, h => by
   simp only [aresults] at h
   simp only [List.all_cons, Bool.and_eq_true, resOk, decide_eq_true_eq] at hk
   cases hl : aresults E s l with
   | none => simp [hl] at h
   | some r' =>
     simp [hl] at h; subst h
     have ih := run_aresults H F l r' hk.2 hl
     simp only [List.mapM_cons, resVal, Sem.run_bind, Sem.run_pure, Result.andThen_ok, ih, F.val t hk.1, List.map_cons]
 | .cell b t :: l, r, hk, h => by
   simp only [aresults] at h
   simp only [List.all_cons, Bool.and_eq_true, resOk, decide_eq_true_eq] at hk
   cases hv : aload E s.h t (fget s.tm b) with
   | none => simp [hv] at h
   | some v =>
     cases hl : aresults E s l with
     | none => simp [hv, hl] at h
     | some r' =>
       simp [hv, hl] at h; subst h
       have ih := run_aresults H F l r' hk.2 hl
       obtain ⟨h1, _, ad, hp⟩ := run_aload H hv
       rw [hp] at h1
       simp only [Instr.loadAt, ren, Instr.sureAddr, Sem.run_bind, Sem.run_pure, Result.andThen_ok] at h1
       have hh : (resVal a.tmps (.cell b t)).run E.P w = .ok (ren ρ v) w := by
        simp only [resVal, F.val b hk.1, hp, ren, asAddr, Sem.run_bind, Sem.run_pure, Result.andThen_ok, h1]
       simp only [List.mapM_cons, Sem.run_bind, Sem.run_pure, hh, Result.andThen_ok, ih, List.map_cons]
theorem sc_aresults {E : Env} {B : Nat} {ρ : Ren} {s : St} {w : World} (H : HR E B ρ s.h w) (S : Sc s) : ∀ (l : List ResultVar) (r : List Value), aresults E s l = some r → ∀ v, v ∈ r → sc s.h.next v = true
 | [], r, h => by simp [aresults] at h; subst h; simp
 | .tmp t :: l, r, h => by
   simp only [aresults] at h
   cases hl : aresults E s l with
   | none => simp [hl] at h
   | some r' =>
     simp [hl] at h; subst h
     intro v hv
     simp only [List.mem_cons] at hv
     rcases hv with rfl | hv
     ·exact S t
     ·exact sc_aresults H S l r' hl v hv
 | .cell b t :: l, r, h => by
   simp only [aresults] at h
   cases hv : aload E s.h t (fget s.tm b) with
   | none => simp [hv] at h
   | some v =>
     cases hl : aresults E s l with
     | none => simp [hv, hl] at h
     | some r' =>
       simp [hv, hl] at h; subst h
       intro x hx
       simp only [List.mem_cons] at hx
       rcases hx with rfl | hx
       ·exact (run_aload H hv).2.1
       ·exact sc_aresults H S l r' hl x hx
theorem ren_aret (ρ : Ren) (r : List Value) : (if h : (r.map (ren ρ)).toArray.size = 1 then (r.map (ren ρ)).toArray[0] else .tuple (r.map (ren ρ)).toArray) = ren ρ (aret r) := by
 match r with
 | [] => simp [aret, ren, renA_eq]
 | [v] => simp [aret]
 | v :: u :: l => simp [aret, ren, renA_eq]
def KnownOk (E : Env) : Prop := ∀ f args v, E.known f args = some v → (∃ fn b, E.P.funcs[f]? = some fn ∧ fn.body = some b ∧ (fn.name == "runtime.NumGoroutine") = false) ∧ (∀ ρ, args.map (ren ρ) = args) ∧ (∀ ρ, ren ρ v = v) ∧ (∀ n, sc n v = true) ∧
 ∀ w : World, (∀ b o, b < E.base → E.ro b = some o → w.heap[b]? = some o) → Calls E.P f args.toArray w fun e w' => e = .returned v ∧ Below w.heap.size w w'
def IterOk (E : Env) : Prop := ∀ f lb h i o, E.iter f lb h i = some o →
 (∃ fn b, E.P.funcs[f]? = some fn ∧ fn.body = some b ∧ (fn.name == "runtime.NumGoroutine") = false) ∧
 (∀ v, o = some v → ∀ B ρ W, HR E B ρ h W → sc h.next v = true) ∧
 ∀ (B l N : Nat) (lbc : List Value) (I : Nat → Ren → Heap → World → Prop) (R : World → Prop),
  (∀ i ρ h W, I i ρ h W → (∀ ρ' W', Step E B ρ h W ρ' h W' → I i ρ' h W') ∧ i < N ∧ HR E B ρ h W ∧ lb.map (ren ρ) = lbc ∧ (∀ x, x ∈ lb → sc h.next x = true) ∧ ∃ o, E.iter f lb h i = some o ∧ (o = none → R W) ∧
   ∀ v, o = some v → ∃ fn tmps assign body, (Instr.yield l #[ren ρ v]).run E.P W = .ok (.round l fn tmps assign body) W ∧
    RoundIn (Wd none) 0 E.P l fn tmps assign body W fun e W2 => (e = .returned (.bool true) ∧ ∃ ρ' h', (∀ b, b < h.next → ρ' b = ρ b) ∧ h.next ≤ h'.next ∧ I (i + 1) ρ' h' W2) ∨ (e = .returned (.bool false) ∧ R W2)) →
  ∀ ρ h W, I 0 ρ h W → CallsIn (Wd none) 0 E.P f (.func (.yield l) #[] #[] :: lbc).toArray W fun e W' => ∃ v, e = .returned v ∧ R W'
def exJump : Ex → Option Code
 | .normal => none
 | .ret => some .ret
 | .exit id => some (.exit id)
 | .goto l => some (.goto l)
theorem marks_nil (w w' : World) : Marks w w' [] := ⟨List.nodup_nil, fun r h => by cases h⟩
theorem range_ok {E : Env} (hit : IterOk E) {B n : Nat} {run : Code → St → Option (Ex × St)} (hr : RunOk E B n run) {g : Operand} {ps : Array Tmp} {assign body : Code} {p : Nat} (hps : ps.toList = [p]) (hp : p < n)
 (hg : opdOk E.base n g = true) (hca : codeOk E.base n assign = true) (hcb : codeOk E.base n body = true) (hfa : flat assign = true) (hfb : flat body = true) {s : St} {it : Heap → Nat → Option (Option Value)} (hai : aiter E (opd s.tm g) = some it)
 {k : Nat} {e : Ex} {s' : St} (h : arange run it p assign body s.tm k 0 s.h = some (e, s')) {ρ : Ren} {w : World} {a : Act} {ds : List Deferred} (H : HR E B ρ s.h w) (F : FR ρ n ds s.tm a) (S : Sc s) :
 (Code.rangeFunc g ps assign body).wpIn (Wd none) 0 E.P (Post E B n ds ρ s w e s') a w := by
 have hps' : ps = #[p] := by cases ps; simp at hps; simp [hps]
 subst hps'
 unfold aiter at hai
 split at hai
 rotate_left
 ·cases hai
 rename_i f cap hv
 injection hai with hai
 have hge := eval_opd H F hg
 rw [hv] at hge
 obtain ⟨o0, ho0⟩ : ∃ o, E.iter f cap.toList s.h 0 = some o := by
  cases k with
  | zero => simp [arange] at h
  | succ k =>
    cases hx : it s.h 0 with
    | none => simp [arange, hx] at h
    | some o => exact ⟨o, by rw [hai]; exact hx⟩
 obtain ⟨⟨fn, b, hf1, hf2, hf3⟩, _, hcall⟩ := hit f cap.toList s.h 0 o0 ho0
 have hscg : sc s.h.next (opd s.tm g) = true := sc_opd H.base_le S hg
 refine wpIn_rangeFunc fun fid _ => ?_
 generalize hw1 : (w.alloc (.deferred (some []))).alloc (.loop { state := .ready, pending := none, fn := fid, tmps := a.tmps, params := #[p], assign := assign, body := body, defers := w.heap.size }) = w1
 have hbase : ∀ st pend, (⟨st, pend, fid, a.tmps, #[p], assign, body, w.heap.size⟩ : Loop) = { state := st, pending := pend, fn := fid, tmps := a.tmps, params := #[p], assign := assign, body := body, defers := w.heap.size } := fun _ _ => rfl
 have st1 : Step E B ρ s.h w ρ s.h w1 := by
  rw [← hw1]
  exact (Step.sideNew H _).trans (Step.sideNew (Step.sideNew H _).hr _)
 have hrec : w1.heap[w.heap.size + 1]? = some (.loop { state := .ready, pending := none, fn := fid, tmps := a.tmps, params := #[p], assign := assign, body := body, defers := w.heap.size }) := by
  rw [← hw1, heap_alloc, Array.getElem?_push, if_pos (by simp)]
 have hdef : w1.heap[w.heap.size]? = some (.deferred (some [])) := by
  rw [← hw1, heap_alloc, Array.getElem?_push, if_neg (by simp), heap_alloc, Array.getElem?_push, if_pos rfl]
 have hI0 : ∀ W', Step E B ρ s.h w ρ s.h W' → True := fun _ _ => trivial
 refine ⟨w.heap.size + 1, [{ target := .collected w.heap.size, args := #[] }], w1, { target := .fn (.func f) (cap.map (ren ρ)), args := #[.func (.yield (w.heap.size + 1)) #[] #[]] }, w1, f, (.func (.yield (w.heap.size + 1)) #[] #[] :: cap.toList.map (ren ρ)).toArray, w1, ?_, ?_, fun _ _ => trivial, ?_, fun h => Bool.noConfusion h, ?_⟩
 ·rw [← hw1]; exact run_enterLoop_outer fid a.tmps #[p] assign body
 ·simp only [resolve, hge, ren, renA_eq, Deferred.ofValue]
  simp [Act.eval]
 ·simp only [invoke]
  rw [run_callFunc hf1 hf2 hf3]
  congr 2
  apply Array.ext'
  simp
 ·refine CallsIn.mono (hcall B (w.heap.size + 1) k (cap.toList.map (ren ρ))
   (fun i ρi hh W => i < k ∧ Step E B ρ s.h w ρi hh W ∧ arange run it p assign body s.tm (k - i) i hh = some (e, s') ∧ W.heap[w.heap.size]? = some (.deferred (some [])) ∧
    W.heap[w.heap.size + 1]? = some (.loop { state := .ready, pending := none, fn := fid, tmps := a.tmps, params := #[p], assign := assign, body := body, defers := w.heap.size }))
   (fun W => ∃ ρi st, Step E B ρ s.h w ρi s'.h W ∧ s'.tm = s.tm ∧ st ≠ .busy ∧ W.heap[w.heap.size]? = some (.deferred (some [])) ∧
    W.heap[w.heap.size + 1]? = some (.loop { state := st, pending := exJump e, fn := fid, tmps := a.tmps, params := #[p], assign := assign, body := body, defers := w.heap.size })) ?_ ρ s.h w1 ?_) ?_
  ·rintro i ρi hh W ⟨hik, sti, hra, hd, hl⟩
   refine ⟨fun ρ' W' st => ⟨hik, sti.trans st, hra, st.keeps sti.hr hd rfl, st.keeps sti.hr hl rfl⟩, hik, sti.hr, ?_⟩
   obtain ⟨m, hm⟩ : ∃ m, k - i = m + 1 := ⟨k - i - 1, by omega⟩
   rw [hm] at hra
   simp only [arange] at hra
   have hcap : cap.toList.map (ren ρi) = cap.toList.map (ren ρ) := by
    refine List.map_congr_left fun x hx => ren_congr ρ ρi s.h.next sti.ext x ?_
    rw [hv] at hscg
    simp only [sc, Bool.and_eq_true, scA_iff] at hscg
    exact hscg.2 x (by simpa using hx)
   have hsl : ∀ x, x ∈ cap.toList → sc hh.next x = true := fun x hx => by
    rw [hv] at hscg
    simp only [sc, Bool.and_eq_true, scA_iff] at hscg
    exact sc_mono _ _ sti.le _ (hscg.2 x (by simpa using hx))
   cases hiter : it hh i with
   | none => simp [hiter] at hra
   | some o =>
     refine ⟨hcap, hsl, o, by rw [hai]; exact hiter, ?_, ?_⟩
     ·rintro rfl
      simp only [hiter, Option.some.injEq, Prod.mk.injEq] at hra
      obtain ⟨rfl, rfl⟩ := hra
      exact ⟨ρi, .ready, sti, rfl, by simp, hd, hl⟩
     ·rintro v rfl
      have hscv : sc hh.next v = true := by
       obtain ⟨_, hq, _⟩ := hit f cap.toList hh i (some v) (by rw [hai]; exact hiter)
       exact hq v rfl B ρi W sti.hr
      have stb : Step E B ρ s.h w ρi hh W := sti
      have hl' := hl
      have hd' := hd
      simp only [hiter] at hra
      cases hxa : run assign ⟨s.tm.set p (some v), hh⟩ with
      | none => simp [hxa] at hra
      | some ra =>
        obtain ⟨ea, sa⟩ := ra
        simp only [hxa] at hra
        cases ea with
        | ret => simp at hra
        | exit id => simp at hra
        | goto l => simp at hra
        | normal =>
          simp only at hra
          refine ⟨_, _, _, _, run_yield hl' (by simp), ?_⟩
          refine roundIn_of_wpIn trivial ?_
          have Fv := F.put (ρ' := ρi) (m := s.h.next) sti.ext S (d := some p) (by simpa [dstOk] using hp) v
          have Fr : FR ρi n [] (s.tm.set p (some v)) { tmps := a.tmps.setIfInBounds p (ren ρi v), defers := [] } := ⟨rfl, Fv.size, Fv.val⟩
          have Sr : Sc ⟨s.tm.set p (some v), hh⟩ := sc_aput (d := some p) S sti.le hscv
          have ha := hr (some (w.heap.size + 1)) assign _ _ _ hxa hca (.inr hfa) ρi W { tmps := a.tmps.setIfInBounds p (ren ρi v), defers := [] } [] stb.hr Fr Sr
          have etm : (Array.foldl (fun tmps (x : Tmp × Value) => tmps.setIfInBounds x.1 x.2) a.tmps (Array.zip #[p] #[ren ρi v])) = a.tmps.setIfInBounds p (ren ρi v) := by simp
          simp only [etm]
          refine wpIn_mono ha ?_
          rintro x a1 w2 ⟨rfl, ρ1, rs1, F1, sA, S1, _⟩
          simp only [exq, Exit.then]
          have hl2 := sA.keeps stb.hr hl' rfl
          have hd2 := sA.keeps stb.hr hd' rfl
          refine ⟨_, run_beginRound hl2 rfl, ?_⟩
          have sB := (stb.trans sA).sidePut H.B_le hl2 rfl (by omega) (.loop { state := .busy, pending := none, fn := fid, tmps := a.tmps, params := #[p], assign := assign, body := body, defers := w.heap.size })
          have hl3 : (w2.putObj (w.heap.size + 1) (.loop { state := .busy, pending := none, fn := fid, tmps := a.tmps, params := #[p], assign := assign, body := body, defers := w.heap.size })).heap[w.heap.size + 1]? = _ := World.putObj_heap_same (lt_of_heap hl2)
          have hd3 : (w2.putObj (w.heap.size + 1) (.loop { state := .busy, pending := none, fn := fid, tmps := a.tmps, params := #[p], assign := assign, body := body, defers := w.heap.size })).heap[w.heap.size]? = _ := (World.putObj_heap_other (by omega)).trans hd2
          cases hxb : run body sa with
          | none => simp [hxb] at hra
          | some rb =>
            obtain ⟨eb, sb⟩ := rb
            simp only [hxb] at hra
            have hb := hr (some (w.heap.size + 1)) body _ _ _ hxb hcb (.inr hfb) ρ1 _ a1 _ sB.hr F1 S1
            refine wpIn_mono hb ?_
            rintro x a2 w4 ⟨rfl, ρ2, rs2, F2, sC, S2, _⟩
            have hl4 := sC.keeps sB.hr hl3 rfl
            have hd4 := sC.keeps sB.hr hd3 rfl
            have sD := sB.trans sC
            have fin : ∀ (jump : Option Code) (rest : World → Prop), (∀ st, st = (if jump.isNone then LoopState.ready else .done) → ∀ W2, Step E B ρ s.h w ρ2 sb.h W2 → W2.heap[w.heap.size]? = some (.deferred (some [])) →
             W2.heap[w.heap.size + 1]? = some (.loop { state := st, pending := jump, fn := fid, tmps := a.tmps, params := #[p], assign := assign, body := body, defers := w.heap.size }) → rest W2) →
             ∃ v w5, (Instr.endRound (w.heap.size + 1) jump).run E.P w4 = .ok v w5 ∧ v = .bool jump.isNone ∧ rest w5 := by
             intro jump rest hrest
             exact ⟨_, _, run_endRound jump hl4, rfl, hrest _ rfl _ (sD.sidePut H.B_le hl4 rfl (by omega) _) ((World.putObj_heap_other (by omega)).trans hd4) (World.putObj_heap_same (lt_of_heap hl4))⟩
            have done : ∀ eb', eb' ≠ .normal → (e, s') = (eb', (⟨s.tm, sb.h⟩ : St)) → ∃ v w5, (Instr.endRound (w.heap.size + 1) (exJump eb')).run E.P w4 = .ok v w5 ∧ v = .bool (exJump eb').isNone ∧
             (∃ ρi st, Step E B ρ s.h w ρi s'.h w5 ∧ s'.tm = s.tm ∧ st ≠ .busy ∧ w5.heap[w.heap.size]? = some (.deferred (some [])) ∧
              w5.heap[w.heap.size + 1]? = some (.loop { state := st, pending := exJump e, fn := fid, tmps := a.tmps, params := #[p], assign := assign, body := body, defers := w.heap.size })) := by
             intro eb' _ hee
             simp only [Prod.mk.injEq] at hee
             obtain ⟨rfl, rfl⟩ := hee
             refine fin _ _ fun st hst W2 s2 hd5 hl5 => ⟨ρ2, st, s2, rfl, ?_, hd5, hl5⟩
             rw [hst]; split <;> simp
            cases eb with
            | normal =>
              simp only at hra
              simp only [exq, roundPost]
              obtain ⟨v5, w5, g1, g2, g3⟩ := fin none (fun W2 => i + 1 < k ∧ Step E B ρ s.h w ρ2 sb.h W2 ∧ arange run it p assign body s.tm (k - (i + 1)) (i + 1) sb.h = some (e, s') ∧ W2.heap[w.heap.size]? = some (.deferred (some [])) ∧
               W2.heap[w.heap.size + 1]? = some (.loop { state := .ready, pending := none, fn := fid, tmps := a.tmps, params := #[p], assign := assign, body := body, defers := w.heap.size })) (by
               intro st hst W2 s2 hd5 hl5
               have em : k - (i + 1) = m := by omega
               have hm0 : 0 < m := by
                rcases Nat.eq_zero_or_pos m with h0 | h0
                ·subst h0; simp [arange] at hra
                ·exact h0
               refine ⟨by omega, s2, by rw [em]; exact hra, hd5, ?_⟩
               rw [hl5, hst]; rfl)
              subst g2
              exact ⟨_, w5, g1, .inl ⟨rfl, ρ2, sb.h, (sA.trans (Step.refl sA.hr)).ext |> fun ha b hb => (sC.ext b (Nat.lt_of_lt_of_le hb sA.le)).trans (ha b hb), Nat.le_trans sA.le sC.le, g3⟩⟩
            | ret =>
              simp only [Option.some.injEq] at hra
              obtain ⟨v5, w5, g1, g2, g3⟩ := done .ret (by simp) hra.symm
              subst g2
              exact ⟨_, w5, g1, .inr ⟨rfl, g3⟩⟩
            | exit id =>
              simp only [Option.some.injEq] at hra
              obtain ⟨v5, w5, g1, g2, g3⟩ := done (.exit id) (by simp) hra.symm
              subst g2
              exact ⟨_, w5, g1, .inr ⟨rfl, g3⟩⟩
            | goto l =>
              simp only [Option.some.injEq] at hra
              obtain ⟨v5, w5, g1, g2, g3⟩ := done (.goto l) (by simp) hra.symm
              subst g2
              exact ⟨_, w5, g1, .inr ⟨rfl, g3⟩⟩
  ·refine ⟨?_, st1, by simpa using h, hdef, hrec⟩
   cases k with
   | zero => simp [arange] at h
   | succ k => omega
  ·rintro e2 W' ⟨v, rfl, ρi, st, sR, htm, hst, hd, hl⟩
   refine ⟨exJump e, _, run_endLoop hl hst, ?_⟩
   have sE := sR.sidePut H.B_le hl rfl (by omega) (.loop { state := .exhausted, pending := exJump e, fn := fid, tmps := a.tmps, params := #[p], assign := assign, body := body, defers := w.heap.size })
   have FE : FR ρi n ([{ target := .collected w.heap.size, args := #[] }] ++ a.defers) s'.tm { tmps := a.tmps, defers := [{ target := .collected w.heap.size, args := #[] }] ++ a.defers } := by
    refine ⟨rfl, F.size, fun t ht => ?_⟩
    rw [htm]
    exact (F.val t ht).trans (ren_congr ρ ρi s.h.next sE.ext _ (S t)).symm
   have hP : Post E B n ds ρ s w e s' (exq e) { tmps := a.tmps, defers := [{ target := .collected w.heap.size, args := #[] }] ++ a.defers } (W'.putObj (w.heap.size + 1) (.loop { state := .exhausted, pending := exJump e, fn := fid, tmps := a.tmps, params := #[p], assign := assign, body := body, defers := w.heap.size })) := by
    refine ⟨rfl, ρi, [w.heap.size], ?_, sE, ?_, ?_, ?_⟩
    ·rw [← F.defers]; exact FE
    ·intro t
     have := sE.le
     rw [htm]
     exact sc_mono _ _ this _ (S t)
    ·simp
    ·intro r hr
     simp only [List.mem_singleton] at hr
     subst hr
     exact ⟨Nat.le_refl _, (World.putObj_heap_other (by omega)).trans hd⟩
   cases e with
   | normal => exact hP
   | ret => exact wpIn_ret hP
   | exit id => exact wpIn_exit hP
   | goto l => exact wpIn_goto hP
theorem leaves_ok {E : Env} {B : Nat} {ρ ρ1 : Ren} {h h1 : Heap} {w : World} (hB : B ≤ w.heap.size) {fn : Func} {tmps : Array Value} {R : Ending → World → Prop}
 (fin : ∀ w2, Step E B ρ h w ρ1 h1 w2 → ∃ v, (results fn tmps).run E.P w2 = .ok v w2 ∧ R (.returned v) w2) :
 ∀ (rs : List Nat) (w1 : World), Step E B ρ h w ρ1 h1 w1 → Marks w w1 rs → LeavesInM Fence.wide 0 E.P fn tmps R (mkD rs) .returning w1
 | [], w1, st, _ => fin w1 st
 | r :: rs, w1, st, hm => by
   obtain ⟨h1, h2⟩ := hm.2 r (by simp)
   have hnd := List.nodup_cons.1 hm.1
   refine ⟨by simp, .inl ⟨r, _, rfl, run_takeDeferred h2, leaves_ok hB fin rs _ (st.sidePut hB h2 rfl h1 _) ⟨hnd.2, fun r' hr' => ?_⟩⟩⟩
   obtain ⟨h3, h4⟩ := hm.2 r' (List.mem_cons_of_mem _ hr')
   exact ⟨h3, (World.putObj_heap_other (fun e => hnd.1 (by rw [← e]; exact hr'))).trans h4⟩
theorem call_ok {E : Env} (hp : progOk E = true) (hkn : KnownOk E) {B : Nat} {run : Code → St → Option (Ex × St)} (hr : ∀ n, RunOk E B n run) : CallOk E B (acallBy E run) := by
 intro f args h v h' hx
 unfold acallBy at hx
 split at hx
 ·rename_i v' hk
  simp only [Option.some.injEq, Prod.mk.injEq] at hx
  obtain ⟨rfl, rfl⟩ := hx
  obtain ⟨⟨fn, b, h1, h2, h3⟩, h4, h5, h6, h7⟩ := hkn f args v' hk
  refine ⟨fn, b, h1, h2, h3, fun ρ w H _ => ?_⟩
  rw [h4]
  refine (h7 w H.ro).mono ?_
  rintro e w' ⟨rfl, hb⟩
  exact ⟨ρ, by rw [h5], Step.below H hb, h6 _⟩
 unfold acallText at hx
 split at hx
 ·rename_i fn hf
  split at hx
  ·rename_i b hb
   split at hx
   ·rename_i hc
    have hf' : E.P.funcs[f]? = some fn := by simpa using hf
    refine ⟨fn, b, hf', hb, hc.2, ?_⟩
    intro ρ w H hargs
    have hfo : funcOk E.base fn = true := by
     simp only [progOk, List.all_eq_true] at hp
     exact hp fn (List.mem_of_getElem? hf)
    simp only [funcOk, hb, Bool.and_eq_true] at hfo
    obtain ⟨hco, hres⟩ := hfo
    have S0 : Sc ⟨afrom 0 args .leaf, h⟩ := by
     intro t
     simp only [fget_from, Nat.zero_le, if_true, Nat.sub_zero, fget_leaf]
     cases ha : args[t]? with
     | none => rfl
     | some x => exact hargs x (List.mem_of_getElem? ha)
    have F0 : FR ρ fn.ntmps [] (afrom 0 args .leaf) { tmps := (args.map (ren ρ)).toArray ++ Array.replicate (fn.ntmps - (args.map (ren ρ)).toArray.size) undef, defers := [] } := by
     refine ⟨rfl, by simp; omega, ?_⟩
     intro t ht
     simp only [fget_from, Nat.zero_le, if_true, Nat.sub_zero, fget_leaf, Array.getD_eq_getD_getElem?, Array.getElem?_append]
     by_cases hlt : t < args.length
     ·simp [hlt]
     ·simp [hlt, Array.getElem?_replicate, undef, ren, renA_eq]
      rw [if_pos (by omega)]
      rfl
    have fin : ∀ e s', run b ⟨afrom 0 args .leaf, h⟩ = some (e, s') → (e = .normal ∨ e = .ret) → (aresults E s' fn.results.toList).map (fun l => (aret l, s'.h)) = some (v, h') →
     Calls E.P f (args.map (ren ρ)).toArray w fun e w' => ∃ ρ', e = .returned (ren ρ' v) ∧ Step E B ρ h w ρ' h' w' ∧ sc h'.next v = true := by
     intro e s' hrun he hl
     cases har : aresults E s' fn.results.toList with
     | none => simp [har] at hl
     | some r =>
       simp [har] at hl
       obtain ⟨rfl, rfl⟩ := hl
       refine callsIn_wide.1 (callsIn_of_wp_marks (F := Fence.wide) (n := 0) hf' hb trivial (wpIn_mono (hr fn.ntmps none b _ e s' hrun hco (.inl rfl) ρ w _ [] H F0 S0) ?_))
       rintro x a1 w1 ⟨rfl, ρ1, rs, F1, st1, S1, hm⟩
       have hscv : sc s'.h.next (aret r) = true := by
        have hall := sc_aresults st1.hr S1 _ r har
        match r, hall with
        | [], _ => rfl
        | [v], hall => exact hall v (by simp)
        | v :: u :: l, hall => simp only [aret, sc, scA, scL_iff]; exact hall
       have hlv := leaves_ok (R := fun e w' => ∃ ρ', e = .returned (ren ρ' (aret r)) ∧ Step E B ρ h w ρ' s'.h w' ∧ sc s'.h.next (aret r) = true) H.B_le (fn := fn) (tmps := a1.tmps) (fun w2 st2 => by
        refine ⟨ren ρ1 (aret r), ?_, ρ1, rfl, st2, hscv⟩
        have := run_aresults st2.hr F1 _ r hres har
        rw [results_eq, Array.mapM_eq_mapM_toList]
        simp only [Sem.run_bind, Sem.run_map, this, Result.andThen_ok, Sem.run_pure]
        rw [ren_aret]) rs w1 st1 hm
       have hdf : a1.defers = mkD rs := by rw [F1.defers]; simp
       rw [← hdf] at hlv
       rcases he with rfl | rfl
       ·exact hlv
       ·exact hlv
    unfold aleave at hx
    split at hx
    ·rename_i s' hrun; exact fin _ _ hrun (.inl rfl) hx
    ·rename_i s' hrun; exact fin _ _ hrun (.inr rfl) hx
    ·cases hx
   ·cases hx
  ·cases hx
 ·cases hx
theorem exec_ok {E : Env} (hp : progOk E = true) (hkn : KnownOk E) (hit : IterOk E) (hm : E.P.follows .mixedOrders = true) {B : Nat} : ∀ (k n : Nat), RunOk E B n (aexec E k) := by
 intro k
 induction k with
 | zero => intro n rd c s e s' h; simp [aexec] at h
 | succ k ih =>
   intro n rd c s e s' h hc hfl ρ w a ds H F S
   have base : ∀ x, Post E B n ds ρ s w x s (exq x) a w := fun x => ⟨rfl, ρ, [], F, Step.refl H, S, marks_nil _ _⟩
   cases c with
   | skip => simp only [aexec, Option.some.injEq, Prod.mk.injEq] at h; obtain ⟨rfl, rfl⟩ := h; exact wpIn_skip (base .normal)
   | label l => simp only [aexec, Option.some.injEq, Prod.mk.injEq] at h; obtain ⟨rfl, rfl⟩ := h; exact wpIn_label (base .normal)
   | ret => simp only [aexec, Option.some.injEq, Prod.mk.injEq] at h; obtain ⟨rfl, rfl⟩ := h; exact wpIn_ret (base .ret)
   | exit id => simp only [aexec, Option.some.injEq, Prod.mk.injEq] at h; obtain ⟨rfl, rfl⟩ := h; exact wpIn_exit (base (.exit id))
   | goto l => simp only [aexec, Option.some.injEq, Prod.mk.injEq] at h; obtain ⟨rfl, rfl⟩ := h; exact wpIn_goto (base (.goto l))
   | seq x y =>
     simp only [codeOk, Bool.and_eq_true] at hc
     simp only [flat, Bool.and_eq_true] at hfl
     simp only [aexec] at h
     cases hx : aexec E k x s with
     | none => simp [hx] at h
     | some r =>
       obtain ⟨e1, s1⟩ := r
       have h1 := ih n rd x s e1 s1 hx hc.1 (hfl.imp id (·.1)) ρ w a ds H F S
       refine wpIn_seq ?_
       cases e1 with
       | normal =>
         simp only [hx] at h
         refine wpIn_mono h1 ?_
         rintro x1 a1 w1 ⟨rfl, ρ1, rs, F1, st1, S1, hm1⟩
         exact wpIn_mono (ih n rd y s1 e s' h hc.2 (hfl.imp id (·.2)) ρ1 w1 a1 _ st1.hr F1 S1) fun _ _ _ hh => Post.trans st1 hm1 hh
       | ret => simp only [hx, Option.some.injEq, Prod.mk.injEq] at h; obtain ⟨rfl, rfl⟩ := h; exact wpIn_mono h1 (by rintro x a1 w1 ⟨rfl, hh⟩; exact ⟨rfl, hh⟩)
       | exit id => simp only [hx, Option.some.injEq, Prod.mk.injEq] at h; obtain ⟨rfl, rfl⟩ := h; exact wpIn_mono h1 (by rintro x a1 w1 ⟨rfl, hh⟩; exact ⟨rfl, hh⟩)
       | goto l => simp only [hx, Option.some.injEq, Prod.mk.injEq] at h; obtain ⟨rfl, rfl⟩ := h; exact wpIn_mono h1 (by rintro x a1 w1 ⟨rfl, hh⟩; exact ⟨rfl, hh⟩)
   | cond x y z =>
     simp only [codeOk, Bool.and_eq_true] at hc
     simp only [flat, Bool.and_eq_true] at hfl
     simp only [aexec] at h
     have he := eval_opd H F hc.1
     split at h
     ·rename_i ht
      rw [ht] at he
      exact wpIn_cond_true he (ih n rd y s e s' h hc.2.1 (hfl.imp id (·.1)) ρ w a ds H F S)
     ·rename_i ht
      rw [ht] at he
      exact wpIn_cond_false he (ih n rd z s e s' h hc.2.2 (hfl.imp id (·.2)) ρ w a ds H F S)
     ·cases h
   | block id b =>
     simp only [codeOk] at hc
     simp only [flat] at hfl
     simp only [aexec] at h
     cases hx : aexec E k b s with
     | none => simp [hx] at h
     | some r =>
       obtain ⟨e1, s1⟩ := r
       have h1 := ih n rd b s e1 s1 hx hc hfl ρ w a ds H F S
       refine wpIn_block (wpIn_mono h1 ?_)
       rintro x1 a1 w1 ⟨rfl, hh⟩
       cases e1 with
       | exit id' =>
         simp only [hx] at h
         simp only [exq, Exit.inBlock]
         split at h
         ·rename_i hid
          simp only [Option.some.injEq, Prod.mk.injEq] at h
          obtain ⟨rfl, rfl⟩ := h
          rw [if_pos hid]; exact ⟨rfl, hh⟩
         ·rename_i hid
          simp only [Option.some.injEq, Prod.mk.injEq] at h
          obtain ⟨rfl, rfl⟩ := h
          rw [if_neg hid]; exact ⟨rfl, hh⟩
       | normal => simp only [hx, Option.some.injEq, Prod.mk.injEq] at h; obtain ⟨rfl, rfl⟩ := h; exact ⟨rfl, hh⟩
       | ret => simp only [hx, Option.some.injEq, Prod.mk.injEq] at h; obtain ⟨rfl, rfl⟩ := h; exact ⟨rfl, hh⟩
       | goto l => simp only [hx, Option.some.injEq, Prod.mk.injEq] at h; obtain ⟨rfl, rfl⟩ := h; exact ⟨rfl, hh⟩
   | loop b =>
     simp only [codeOk] at hc
     simp only [flat] at hfl
     simp only [aexec] at h
     exact wpIn_loop_rounds k (rounds_ok (ih n) hc hfl k s e s' h ρ w a ds H F S)
   | scope b =>
     simp only [codeOk] at hc
     simp only [flat] at hfl
     simp only [aexec] at h
     exact wp_scope_hops k (scope_ok (ih n) hc hfl k b s e s' hc hfl h ρ w a ds H F S)
   | region id ops draw =>
     simp only [codeOk] at hc
     cases draw with
     | false =>
       simp only [aexec] at h
       rw [aops_eq ops.toList 0 s (by simp), Array.length_toList] at h
       cases hx : aopsI E (acallBy E (aexec E k)) ops (List.range' 0 ops.size) s with
       | none => simp [hx] at h
       | some s1 =>
         simp [hx] at h
         obtain ⟨rfl, rfl⟩ := h
         refine wpIn_region ?_
         rw [List.range_eq_range']
         refine run_ops (call_ok hp hkn ih) hc _ s s1 ρ w a hx H F S ?_
         intro ρ' a' w' h1 h2 h3
         exact ⟨rfl, ρ', [], h2, h1, h3, marks_nil _ _⟩
     | true =>
       simp only [aexec] at h
       cases hx : adrawX E (acallBy E (aexec E k)) ops.toList s with
       | none => simp [hx] at h
       | some s1 =>
         simp [hx] at h
         obtain ⟨rfl, rfl⟩ := h
         refine wpIn_region_draw fun t => ?_
         rw [hm]
         simp only [Region.schedule, Bool.true_or, if_true]
         rcases adrawX_cases hx with hx | ⟨c, W, rfl, rfl⟩
         ·obtain ⟨s2, g1, g2, g3⟩ := draw_sched hx t
          refine run_ops (call_ok hp hkn ih) hc _ s s2 ρ w.drew a g1 H.drew F S ?_
          intro ρ' a' w' h1 h2 h3
          refine ⟨rfl, ρ', [], ⟨h2.defers, h2.size, fun t ht => by rw [h2.val t ht, g2 t]⟩, ((Step.drew H).trans h1).same g3, fun t => ?_, marks_nil _ _⟩
          rw [← g2 t, ← g3.1]; exact h3 t
         ·refine run_draw2 (call_ok hp hkn ih) hc W (ρ0 := ρ) (w0 := w.drew) H.drew.B_le ?_ _ [] 0 ρ (c 0).tm w.drew a (linearise_sched W.down t) (fun i o hi => by simp at hi) (inv_start H.drew S) F
          intro ρ' a' w' h1 h2 h3
          exact ⟨rfl, ρ', [], h2, (Step.drew H).trans h1, h3, marks_nil _ _⟩
   | rangeFunc g ps assign body =>
     simp only [codeOk, Bool.and_eq_true] at hc
     simp only [flat] at hfl
     rcases hfl with rfl | hfl
     rotate_left
     ·cases hfl
     simp only [aexec] at h
     split at h
     ·rename_i it p hai hps
      split at h
      ·rename_i hff
       refine range_ok hit (ih n) hps ?_ hc.1 hc.2.2.1 hc.2.2.2 hff.1 hff.2 hai h H F S
       have := hc.2.1
       rw [hps] at this
       simpa using this
      ·cases h
     ·cases h
   | refuse _ => simp [aexec] at h
end Go.Tm
