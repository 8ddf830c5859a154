/- The engine, twenty-seventh part: the look at regions that draw; the run of code. -/
/- Merged by a program of ours: Eng24 Eng25 Eng26 Eng27. -/
import Derived.Test.YthdgobcpefcolaaGreatDoorG06
set_option maxRecDepth 10000
set_option linter.all false
set_option linter.unusedSimpArgs false
set_option linter.unusedVariables false
/- The engine, twenty-fourth part: regions that draw their order and make new memory in any order. -/
namespace Go.Tm

def inSpan (c : Nat → St) (k b : Nat) : Bool := decide ((c k).h.next ≤ b) && decide (b < (c (k + 1)).h.next)
def live (c : Nat → St) (D : List Nat) (b : Nat) : Bool := decide (b < (c 0).h.next) || D.any fun k => inSpan c k b
def befs (M : List Nat) (i : Nat) : List Nat := (List.range i).filter fun k => bef M k i

structure Draw2 (E : Env) (call : Caller) (O : List Oper) (c : Nat → St) : Prop where
  run : ∀ (i : Nat) (o : Oper), O[i]? = some o → aop1 E call O o (c i) = some (c (i + 1))
  down : Down O
  dsts : ∀ (i j : Nat) (o o' : Oper) (d : Nat), O[i]? = some o → O[j]? = some o' → o.dst = some d → o'.dst = some d → i = j
  rds : ∀ (i : Nat) (o : Oper) (t j : Nat) (o' : Oper), O[i]? = some o → t ∈ rdTmps O o → O[j]? = some o' → o'.dst = some t → bef (masks O []) j i = true ∨ bef (masks O []) i j = true ∨ i = j
  effs : ∀ (a b : Nat) (o o' : Oper), a < b → O[a]? = some o → O[b]? = some o' → isF E.P o = true → isF E.P o' = true → bef (masks O []) a b = true
  alle : ∀ (a b : Nat) (o o' : Oper), a < b → O[a]? = some o → O[b]? = some o' → isA E.P o = true → isF E.P o' = true → bef (masks O []) a b = true
  reads : ∀ (i : Nat) (o : Oper) (p : Nat), O[i]? = some o → isR E.P o = true → awanted O (c i).tm o = true → (p = 0 ∨ ∃ e oe, O[e]? = some oe ∧ isF E.P oe = true ∧ p = e + 1 ∧ bef (masks O []) i e = false) →
    (∀ e oe, O[e]? = some oe → isF E.P oe = true → bef (masks O []) e i = true → e < p) → aread E (c p).h (opd (c i).tm) o.op = aread E (c i).h (opd (c i).tm) o.op
  mono : ∀ i, i < O.length → (c i).h.next ≤ (c (i + 1)).h.next
  opds : ∀ (i : Nat) (o : Oper) (x : Operand), O[i]? = some o → isF E.P o = true ∨ isA E.P o = true → awanted O (c i).tm o = true → x ∈ o.op.operands → sc (c i).h.next (opd (c i).tm x) = true
  vals : ∀ (i : Nat) (o : Oper) (d : Nat), O[i]? = some o → o.dst = some d → scQ (live c (i :: befs (masks O []) i)) (fget (c (i + 1)).tm d) = true
  objs : ∀ (i : Nat) (o : Oper) (mk : Nat → Value) (ob : AObj), O[i]? = some o → isA E.P o = true → awanted O (c i).tm o = true → aalloc E.P (opd (c i).tm) o.op = some (mk, ob) → scOQ (live c (befs (masks O []) i)) ob

section
variable {E : Env} {call : Caller} {O : List Oper} {c : Nat → St}

theorem Draw2.canon (W : Draw2 E call O c) : ∀ i, i ≤ O.length → Fr O c (List.range i) (c i).tm
  | 0, _ => fun t => ⟨fun j o hj => by simp at hj, fun _ => rfl⟩
  | i + 1, hi => by
    have ih := W.canon i (by omega)
    have ho : O[i]? = some O[i] := List.getElem?_eq_getElem (by omega)
    obtain ⟨v, hv, _⟩ := aop1_tm (W.run i _ ho)
    intro t
    rw [hv]
    constructor
    · intro j o hj hjo hd
      rw [fget_aput]
      by_cases e : j = i
      · subst e
        rw [ho] at hjo; injection hjo with hjo; subst hjo
        rw [hv, fget_aput]
      · have hji : j < i := by simp at hj; omega
        have : ¬ (O[i].dst = some t) := fun h => e (W.dsts j i o _ t hjo ho hd h)
        rw [if_neg this]
        exact (ih t).1 j o (by simpa using hji) hjo hd
    · intro hn
      rw [fget_aput, if_neg (hn i _ (by simp) ho)]
      exact (ih t).2 fun j o hj hjo => hn j o (by simp at hj ⊢; omega) hjo

theorem Draw2.agree (W : Draw2 E call O c) {D : List Nat} (hD : Closed O D) {tm : Tr Value} (F : Fr O c D tm) {i : Nat} {o : Oper} (ho : O[i]? = some o) (hi : i ∉ D) (hr : ∀ o, O[i]? = some o → ∀ p, p ∈ preds o → p ∈ D) :
    ∀ t, t ∈ rdTmps O o → fget tm t = fget (c i).tm t := by
  intro t ht
  have hlen : i < O.length := (List.getElem?_eq_some_iff.1 ho).1
  have C := W.canon i (by omega)
  by_cases hx : ∃ (j : Nat) (o' : Oper), O[j]? = some o' ∧ o'.dst = some t
  · obtain ⟨j, o', hj, hd⟩ := hx
    rcases W.rds i o t j o' ho ht hj hd with h | h | h
    · have h1 := bef_ready hD hr h
      have h2 := bef_lt W.down i j h
      rw [(F t).1 j o' h1 hj hd, (C t).1 j o' (by simpa using h2) hj hd]
    · have h1 : j ∉ D := fun hjD => hi (bef_done hD j i hjD h)
      have h2 := bef_lt W.down j i h
      rw [(F t).2 (fun k ok hk hok hdk => by have := W.dsts j k o' ok t hj hok hd hdk; subst this; exact h1 hk),
        (C t).2 (fun k ok hk hok hdk => by have := W.dsts j k o' ok t hj hok hd hdk; subst this; simp at hk; omega)]
    · subst h
      rw [(F t).2 (fun k ok hk hok hdk => by have := W.dsts i k o' ok t hj hok hd hdk; subst this; exact hi hk),
        (C t).2 (fun k ok hk hok hdk => by have := W.dsts i k o' ok t hj hok hd hdk; subst this; simp at hk)]
  · have hn : ∀ (D' : List Nat) (j : Nat) (o' : Oper), j ∈ D' → O[j]? = some o' → o'.dst ≠ some t := fun _ j o' _ hj hd => hx ⟨j, o', hj, hd⟩
    rw [(F t).2 (hn D), (C t).2 (hn _)]

theorem Draw2.frstep {D : List Nat} {tm : Tr Value} (W : Draw2 E call O c) (F : Fr O c D tm) {i : Nat} {o : Oper} (ho : O[i]? = some o) (hi : i ∉ D) {v : Value} (hv : (c (i + 1)).tm = aput (c i).tm o.dst v) : Fr O c (i :: D) (aput tm o.dst v) := by
  intro t
  constructor
  · intro j oj hj hoj hd
    rw [fget_aput]
    by_cases e : j = i
    · subst e
      rw [ho] at hoj; injection hoj with hoj; subst hoj
      rw [hv, fget_aput, if_pos hd, if_pos hd]
    · have hjD : j ∈ D := by simp only [List.mem_cons] at hj; exact hj.resolve_left e
      rw [if_neg (fun h => e (W.dsts j i oj o t hoj ho hd h))]
      exact (F t).1 j oj hjD hoj hd
  · intro hn
    rw [fget_aput, if_neg (hn i o (by simp) ho)]
    exact (F t).2 fun j oj hj hoj => hn j oj (List.mem_cons_of_mem _ hj) hoj

theorem live_imp {D D' : List Nat} (h : ∀ k, k ∈ D → k ∈ D') : ∀ b, live c D b = true → live c D' b = true := by
  intro b hb
  simp only [live, Bool.or_eq_true, List.any_eq_true] at hb ⊢
  rcases hb with hb | ⟨k, hk, hb⟩
  · exact .inl hb
  · exact .inr ⟨k, h k hk, hb⟩

theorem Draw2.next_le (W : Draw2 E call O c) {a : Nat} : ∀ k, a + k ≤ O.length → (c a).h.next ≤ (c (a + k)).h.next
  | 0, _ => Nat.le_refl _
  | k + 1, h => Nat.le_trans (W.next_le k (by omega)) (W.mono (a + k) (by omega))

theorem Draw2.next_le' (W : Draw2 E call O c) {a b : Nat} (hab : a ≤ b) (hb : b ≤ O.length) : (c a).h.next ≤ (c b).h.next := by
  obtain ⟨k, rfl⟩ : ∃ k, b = a + k := ⟨b - a, by omega⟩
  exact W.next_le k hb

/-- A name that an operation not yet done gives is not in use. -/
theorem Draw2.unused (W : Draw2 E call O c) {D : List Nat} (hb : ∀ k, k ∈ D → k < O.length) {i b : Nat} (hi : i ∉ D) (hlt : i < O.length) (h1 : (c i).h.next ≤ b) (h2 : b < (c (i + 1)).h.next) : ¬ (live c D b = true) := by
  intro h
  simp only [live, inSpan, Bool.or_eq_true, List.any_eq_true, Bool.and_eq_true, decide_eq_true_eq] at h
  rcases h with h | ⟨k, hk, h3, h4⟩
  · have := W.next_le' (a := 0) (b := i) (by omega) (by omega); omega
  · have hkl := hb k hk
    rcases Nat.lt_trichotomy k i with h5 | h5 | h5
    · have := W.next_le' (a := k + 1) (b := i) (by omega) (by omega); omega
    · subst h5; exact hi hk
    · have := W.next_le' (a := i + 1) (b := k) (by omega) (by omega); omega

def Early (E : Env) (c : Nat → St) (w0 : World) (D : List Nat) (p : Nat) (ρ : Ren) (w : World) (j : Nat) (o : Oper) : Prop :=
  ∃ mk ob cc, aalloc E.P (opd (c j).tm) o.op = some (mk, ob) ∧ w.heap[(ρ (c j).h.next).r]? = some cc ∧ objR E.P ρ (ρ (c j).h.next) ob cc ∧ scO (c j).h.next ob ∧ scOQ (live c D) ob ∧ w0.heap.size ≤ (ρ (c j).h.next).r ∧
    ∀ b o', (c p).h.get b = some o' → (ρ b).r ≠ (ρ (c j).h.next).r

structure Inv (E : Env) (B : Nat) (O : List Oper) (c : Nat → St) (ρ0 : Ren) (w0 : World) (D : List Nat) (p : Nat) (ρ : Ren) (tm : Tr Value) (w : World) : Prop where
  st : Step E B ρ0 (c 0).h w0 ρ (c p).h w
  bd : ∀ k, k ∈ D → k < O.length
  le : p ≤ O.length
  form : p = 0 ∨ ∃ e oe, O[e]? = some oe ∧ isF E.P oe = true ∧ p = e + 1
  effs : ∀ e o, O[e]? = some o → isF E.P o = true → (e ∈ D ↔ e < p)
  allocs : ∀ j o, O[j]? = some o → isA E.P o = true → j < p → j ∈ D
  early : ∀ j o, O[j]? = some o → isA E.P o = true → p ≤ j → j ∈ D → awanted O (c j).tm o = true → Early E c w0 D p ρ w j o
  dist : ∀ j k o o', O[j]? = some o → isA E.P o = true → p ≤ j → j ∈ D → awanted O (c j).tm o = true → O[k]? = some o' → isA E.P o' = true → p ≤ k → k ∈ D → awanted O (c k).tm o' = true → j ≠ k →
    (ρ (c j).h.next).r ≠ (ρ (c k).h.next).r
  fr : Fr O c D tm
  scq : ∀ t, scQ (live c D) (fget tm t) = true

theorem isE_of {P : Program} {o : Oper} (h1 : isF P o = false) (h2 : isA P o = false) : isE P o = false := by
  unfold isF at h1; unfold isA at h2; unfold isE
  cases hk : kindOf P o.op <;> simp only [hk] at h1 h2 ⊢ <;> contradiction

theorem alloc_h {o : Oper} (hA : isA E.P o = true) {s : St} {v : Value} {h' : Heap} (ha : aop E call o.op s = some (v, h')) : ∃ mk ob, aalloc E.P (opd s.tm) o.op = some (mk, ob) ∧ v = mk s.h.next ∧ h' = s.h.push ob := by
  unfold aop at ha
  unfold isA at hA
  cases hk : kindOf E.P o.op <;> simp only [hk] at ha hA
  · cases hA
  · cases hA
  · cases hp : aalloc E.P (opd s.tm) o.op with
    | none => simp [hp] at ha
    | some p =>
      simp [hp] at ha
      exact ⟨p.1, p.2, rfl, ha.1.symm, ha.2.symm⟩
  · cases hA

/-- All that was made early gets its name. -/
theorem Draw2.push (W : Draw2 E call O c) {B : Nat} {ρ0 ρ : Ren} {w0 w : World} (hB : B ≤ w0.heap.size) {D : List Nat} {p : Nat} {tm : Tr Value} (I : Inv E B O c ρ0 w0 D p ρ tm w) : ∀ k, p + k ≤ O.length →
    (∀ e o, p ≤ e → e < p + k → O[e]? = some o → isF E.P o = false) → (∀ j o, p ≤ j → j < p + k → O[j]? = some o → isA E.P o = true → j ∈ D) →
    Step E B ρ0 (c 0).h w0 ρ (c (p + k)).h w ∧ ∀ b o, (c (p + k)).h.get b = some o → (∃ o', (c p).h.get b = some o') ∨ ∃ j oj, p ≤ j ∧ j < p + k ∧ O[j]? = some oj ∧ isA E.P oj = true ∧ j ∈ D ∧ awanted O (c j).tm oj = true ∧ b = (c j).h.next
  | 0, _, _, _ => ⟨I.st, fun b o h => .inl ⟨o, h⟩⟩
  | k + 1, hl, hF, hA => by
    obtain ⟨s, hlive⟩ := W.push hB I k (by omega) (fun e o h1 h2 => hF e o h1 (by omega)) (fun j o h1 h2 => hA j o h1 (by omega))
    have ho : O[p + k]? = some O[p + k] := List.getElem?_eq_getElem (by omega)
    generalize O[p + k] = o at ho
    have hnF := hF (p + k) o (by omega) (by omega) ho
    have hlive' : ∀ b o, (c (p + k)).h.get b = some o → (∃ o', (c p).h.get b = some o') ∨ ∃ j oj, p ≤ j ∧ j < p + (k + 1) ∧ O[j]? = some oj ∧ isA E.P oj = true ∧ j ∈ D ∧ awanted O (c j).tm oj = true ∧ b = (c j).h.next := by
      intro b o hb
      rcases hlive b o hb with h | ⟨j, oj, h1, h2, h3⟩
      · exact .inl h
      · exact .inr ⟨j, oj, h1, by omega, h3⟩
    have run := W.run (p + k) o ho
    rw [show p + (k + 1) = p + k + 1 by omega] at hlive' ⊢
    cases hAo : isA E.P o with
    | false =>
      rw [quiet_h (isE_of hnF hAo) run]
      exact ⟨s, hlive'⟩
    | true =>
      have hD := hA (p + k) o (by omega) (by omega) ho hAo
      obtain ⟨v, _, ⟨hw, ha⟩ | ⟨hw, _, he⟩⟩ := aop1_tm run
      · obtain ⟨mk, ob, ha1, _, ha2⟩ := alloc_h hAo ha
        obtain ⟨mk', ob', cc, g1, g2, g3, g4, g5, g6, g7⟩ := I.early (p + k) o ho hAo (by omega) hD hw
        rw [ha1] at g1
        simp only [Option.some.injEq, Prod.mk.injEq] at g1
        obtain ⟨rfl, rfl⟩ := g1
        rw [ha2]
        refine ⟨s.pushOld g4 (by omega) g6 g2 g3 ?_, ?_⟩
        · intro b o' hb
          rcases hlive b o' hb with ⟨o'', h⟩ | ⟨j, oj, h1, h2, h3, h4, h5, h6, h7⟩
          · exact g7 b o'' h
          · subst h7
            exact I.dist j (p + k) oj o h3 h4 h1 h5 h6 ho hAo (by omega) hD hw (by omega)
        · intro b o' hb
          rw [get_push] at hb
          by_cases e : (c (p + k)).h.next = b
          · exact .inr ⟨p + k, o, by omega, by omega, ho, hAo, hD, hw, e.symm⟩
          · rw [if_neg e] at hb; exact hlive' b o' hb
      · rw [he]; exact ⟨s, hlive'⟩
end
end Go.Tm
/- The engine, twenty-fifth part: regions that draw their order and make new memory in any order: the steps. -/
namespace Go.Tm

section
variable {E : Env} {call : Caller} {O : List Oper} {c : Nat → St}

theorem Draw2.scqstep (W : Draw2 E call O c) {D : List Nat} (hD : Closed O D) {tm : Tr Value} (hs : ∀ t, scQ (live c D) (fget tm t) = true) {i : Nat} {o : Oper} (ho : O[i]? = some o)
    (hr : ∀ o, O[i]? = some o → ∀ p, p ∈ preds o → p ∈ D) {v : Value} (hv : (c (i + 1)).tm = aput (c i).tm o.dst v) : ∀ t, scQ (live c (i :: D)) (fget (aput tm o.dst v) t) = true := by
  intro t
  rw [fget_aput]
  by_cases e : o.dst = some t
  · rw [if_pos e]
    have := W.vals i o t ho e
    rw [hv, fget_aput, if_pos e] at this
    refine scQ_imp _ _ (live_imp fun k hk => ?_) v this
    simp only [List.mem_cons] at hk ⊢
    rcases hk with hk | hk
    · exact .inl hk
    · simp only [befs, List.mem_filter] at hk
      exact .inr (bef_ready hD hr hk.2)
  · rw [if_neg e]
    exact scQ_imp _ _ (live_imp fun k hk => List.mem_cons_of_mem _ hk) _ (hs t)

theorem Early.more {w0 : World} {D : List Nat} {i p : Nat} {ρ : Ren} {w : World} {j : Nat} {o : Oper} (h : Early E c w0 D p ρ w j o) : Early E c w0 (i :: D) p ρ w j o := by
  obtain ⟨mk, ob, cc, g1, g2, g3, g4, g5, g6, g7⟩ := h
  exact ⟨mk, ob, cc, g1, g2, g3, g4, scOQ_imp (live_imp fun k hk => List.mem_cons_of_mem _ hk) g5, g6, g7⟩

theorem same_o {i : Nat} {o o' : Oper} (h : O[i]? = some o) (h' : O[i]? = some o') : o = o' := by rw [h] at h'; exact Option.some.inj h'

variable {B : Nat} {ρ0 : Ren} {w0 : World}

theorem Inv.quiet (W : Draw2 E call O c) {D : List Nat} (hD : Closed O D) {p : Nat} {ρ : Ren} {tm : Tr Value} {w : World} (I : Inv E B O c ρ0 w0 D p ρ tm w) {i : Nat} {o : Oper} (ho : O[i]? = some o) (hi : i ∉ D)
    (hr : ∀ o, O[i]? = some o → ∀ p, p ∈ preds o → p ∈ D) (hF : isF E.P o = false) (hA : isA E.P o = true → awanted O (c i).tm o = false) {v : Value} (hv : (c (i + 1)).tm = aput (c i).tm o.dst v) :
    Inv E B O c ρ0 w0 (i :: D) p ρ (aput tm o.dst v) w := by
  have hne : ∀ j oj, O[j]? = some oj → isA E.P oj = true → awanted O (c j).tm oj = true → j ≠ i := by
    intro j oj h1 h2 h3 e
    subst e
    have := same_o ho h1; subst this
    rw [hA h2] at h3; cases h3
  have hmem : ∀ j oj, O[j]? = some oj → isA E.P oj = true → awanted O (c j).tm oj = true → j ∈ i :: D → j ∈ D := by
    intro j oj h1 h2 h3 h4
    simp only [List.mem_cons] at h4
    exact h4.resolve_left (hne j oj h1 h2 h3)
  refine ⟨I.st, ?_, I.le, I.form, ?_, ?_, ?_, ?_, W.frstep I.fr ho hi hv, W.scqstep hD I.scq ho hr hv⟩
  · intro k hk
    simp only [List.mem_cons] at hk
    rcases hk with rfl | hk
    · exact (List.getElem?_eq_some_iff.1 ho).1
    · exact I.bd k hk
  · intro e oe h1 h2
    have : e ≠ i := by
      intro he; subst he
      have := same_o ho h1; subst this
      rw [hF] at h2; cases h2
    simp only [List.mem_cons, this, false_or]
    exact I.effs e oe h1 h2
  · intro j oj h1 h2 h3
    exact List.mem_cons_of_mem _ (I.allocs j oj h1 h2 h3)
  · intro j oj h1 h2 h3 h4 h5
    exact (I.early j oj h1 h2 h3 (hmem j oj h1 h2 h5 h4) h5).more
  · intro j k oj ok h1 h2 h3 h4 h5 k1 k2 k3 k4 k5 hjk
    exact I.dist j k oj ok h1 h2 h3 (hmem j oj h1 h2 h5 h4) h5 k1 k2 k3 (hmem k ok k1 k2 k5 k4) k5 hjk

theorem isA_not_isF {P : Program} {o : Oper} (h : isA P o = true) : isF P o = false := by
  unfold isA at h; unfold isF
  cases hk : kindOf P o.op <;> simp only [hk] at h ⊢ <;> cases h

theorem Inv.alloc (W : Draw2 E call O c) {D : List Nat} (hD : Closed O D) {p : Nat} {ρ : Ren} {tm : Tr Value} {w : World} (I : Inv E B O c ρ0 w0 D p ρ tm w) {i : Nat} {o : Oper} (ho : O[i]? = some o) (hi : i ∉ D)
    (hr : ∀ o, O[i]? = some o → ∀ p, p ∈ preds o → p ∈ D) (hA : isA E.P o = true) (hw : awanted O (c i).tm o = true) {v : Value} (hv : (c (i + 1)).tm = aput (c i).tm o.dst v)
    {mk : Nat → Value} {ob : AObj} {cc : Obj} (ha : aalloc E.P (opd (c i).tm) o.op = some (mk, ob)) (hh : (c (i + 1)).h = (c i).h.push ob) (hc : objR E.P ρ ⟨w.heap.size, 0, 0⟩ ob cc) (hsc : scO (c i).h.next ob) :
    Inv E B O c ρ0 w0 (i :: D) p (upd ρ (c i).h.next ⟨w.heap.size, 0, 0⟩) (aput tm o.dst v) (w.alloc cc) ∧ ∀ b, live c D b = true → upd ρ (c i).h.next ⟨w.heap.size, 0, 0⟩ b = ρ b := by
  have hlt : i < O.length := (List.getElem?_eq_some_iff.1 ho).1
  have hip : p ≤ i := by
    rcases Nat.lt_or_ge i p with h | h
    · exact absurd (I.allocs i o ho hA h) hi
    · exact h
  have hnext : (c (i + 1)).h.next = (c i).h.next + 1 := by rw [hh]; rfl
  have hfree : ¬ (live c D (c i).h.next = true) := W.unused I.bd hi hlt (Nat.le_refl _) (by omega)
  have hag : ∀ b, live c D b = true → upd ρ (c i).h.next ⟨w.heap.size, 0, 0⟩ b = ρ b := fun b hb => upd_ne _ _ _ (fun e => hfree (e ▸ hb))
  have hpn := W.next_le' (a := p) (b := i) hip (by omega)
  have hmem : ∀ j, j ≠ i → j ∈ i :: D → j ∈ D := by
    intro j h1 h2
    simp only [List.mem_cons] at h2
    exact h2.resolve_left h1
  have hold : ∀ j oj, O[j]? = some oj → j ≠ i → isA E.P oj = true → awanted O (c j).tm oj = true → j ∈ D → (c j).h.next ≠ (c i).h.next := by
    intro j oj h1 h2 h3 h4 h5
    have hjl : j < O.length := (List.getElem?_eq_some_iff.1 h1).1
    have hj : (c (j + 1)).h.next = (c j).h.next + 1 := by
      obtain ⟨v', _, ⟨_, h⟩ | ⟨h, _⟩⟩ := aop1_tm (W.run j oj h1)
      · obtain ⟨_, _, _, _, h6⟩ := alloc_h h3 h
        rw [h6]; rfl
      · rw [h4] at h; cases h
    rcases Nat.lt_or_ge j i with h | h
    · have := W.next_le' (a := j + 1) (b := i) (by omega) (by omega); omega
    · have := W.next_le' (a := i + 1) (b := j) (by omega) (by omega); omega
  have hlow : ∀ b o', (c p).h.get b = some o' → upd ρ (c i).h.next ⟨w.heap.size, 0, 0⟩ b = ρ b ∧ (ρ b).r < w.heap.size := by
    intro b o' hb
    have h1 := (I.st.hr.live b o' hb).2.1
    exact ⟨upd_lt _ _ _ (by omega), I.st.hr.lt hb⟩
  refine ⟨⟨I.st.trans (Step.newOnly I.st.hr hpn _ _), ?_, I.le, I.form, ?_, ?_, ?_, ?_, W.frstep I.fr ho hi hv, W.scqstep hD I.scq ho hr hv⟩, hag⟩
  · intro k hk
    simp only [List.mem_cons] at hk
    rcases hk with rfl | hk
    · exact hlt
    · exact I.bd k hk
  · intro e oe h1 h2
    have : e ≠ i := by
      intro he; subst he
      have := same_o ho h1; subst this
      rw [isA_not_isF hA] at h2; cases h2
    simp only [List.mem_cons, this, false_or]
    exact I.effs e oe h1 h2
  · intro j oj h1 h2 h3
    exact List.mem_cons_of_mem _ (I.allocs j oj h1 h2 h3)
  · intro j oj h1 h2 h3 h4 h5
    by_cases hji : j = i
    · subst hji
      have := same_o ho h1; subst this
      refine ⟨mk, ob, cc, ha, ?_, ?_, hsc, ?_, ?_, ?_⟩
      · rw [upd_same, heap_alloc]; simp
      · rw [upd_same]; exact objR_congr (n := (c j).h.next) (fun b hb => upd_lt _ _ _ hb) hsc hc
      · refine scOQ_imp (live_imp fun k hk => ?_) (W.objs j o mk ob ho hA hw ha)
        simp only [befs, List.mem_filter] at hk
        exact List.mem_cons_of_mem _ (bef_ready hD hr hk.2)
      · rw [upd_same]; exact I.st.size
      · intro b o' hb
        obtain ⟨h6, h7⟩ := hlow b o' hb
        rw [h6, upd_same]; simp only; omega
    · obtain ⟨mk', ob', cc', g1, g2, g3, g4, g5, g6, g7⟩ := I.early j oj h1 h2 h3 (hmem j hji h4) h5
      have e1 := upd_ne ρ (c i).h.next ⟨w.heap.size, 0, 0⟩ (hold j oj h1 hji h2 h5 (hmem j hji h4))
      refine ⟨mk', ob', cc', g1, ?_, ?_, g4, scOQ_imp (live_imp fun k hk => List.mem_cons_of_mem _ hk) g5, ?_, ?_⟩
      · rw [e1, heap_alloc, Array.getElem?_push]
        rw [if_neg ?_]
        · exact g2
        · intro he
          rw [he] at g2
          simp at g2
      · rw [e1]; exact objR_congrQ hag g5 g3
      · rw [e1]; exact g6
      · intro b o' hb
        rw [(hlow b o' hb).1, e1]
        exact g7 b o' hb
  · intro j k oj ok h1 h2 h3 h4 h5 k1 k2 k3 k4 k5 hjk
    have hr' : ∀ j oj, O[j]? = some oj → isA E.P oj = true → p ≤ j → j ∈ D → awanted O (c j).tm oj = true → (ρ (c j).h.next).r < w.heap.size := by
      intro j oj h1 h2 h3 h4 h5
      obtain ⟨_, _, cc', _, g2, _⟩ := I.early j oj h1 h2 h3 h4 h5
      rcases Nat.lt_or_ge (ρ (c j).h.next).r w.heap.size with h' | h'
      · exact h'
      · simp [Array.getElem?_eq_none h'] at g2
    by_cases hji : j = i
    · subst hji
      have hkD := hmem k (fun e => hjk e.symm) k4
      rw [upd_same, upd_ne _ _ _ (hold k ok k1 (fun e => hjk e.symm) k2 k5 hkD)]
      have := hr' k ok k1 k2 k3 hkD k5
      simp only; omega
    · have hjD := hmem j hji h4
      rw [upd_ne _ _ _ (hold j oj h1 hji h2 h5 hjD)]
      by_cases hki : k = i
      · subst hki
        rw [upd_same]
        have := hr' j oj h1 h2 h3 hjD h5
        simp only; omega
      · have hkD := hmem k hki k4
        rw [upd_ne _ _ _ (hold k ok k1 hki k2 k5 hkD)]
        exact I.dist j k oj ok h1 h2 h3 hjD h5 k1 k2 k3 hkD k5 hjk

/-- What is known before an effect. -/
theorem Inv.atE (W : Draw2 E call O c) (hB : B ≤ w0.heap.size) {D : List Nat} (hD : Closed O D) {p : Nat} {ρ : Ren} {tm : Tr Value} {w : World} (I : Inv E B O c ρ0 w0 D p ρ tm w) {i : Nat} {o : Oper} (ho : O[i]? = some o) (hi : i ∉ D)
    (hr : ∀ o, O[i]? = some o → ∀ p, p ∈ preds o → p ∈ D) (hF : isF E.P o = true) : p ≤ i ∧ Step E B ρ0 (c 0).h w0 ρ (c i).h w ∧
      ∀ b o, (c i).h.get b = some o → (∃ o', (c p).h.get b = some o') ∨ ∃ j oj, p ≤ j ∧ j < i ∧ O[j]? = some oj ∧ isA E.P oj = true ∧ j ∈ D ∧ awanted O (c j).tm oj = true ∧ b = (c j).h.next := by
  have hlt : i < O.length := (List.getElem?_eq_some_iff.1 ho).1
  have hip : p ≤ i := by
    rcases Nat.lt_or_ge i p with h | h
    · exact absurd ((I.effs i o ho hF).2 h) hi
    · exact h
  obtain ⟨k, rfl⟩ : ∃ k, i = p + k := ⟨i - p, by omega⟩
  refine ⟨hip, W.push hB I k (by omega) ?_ ?_⟩
  · intro e oe h1 h2 h3
    cases h4 : isF E.P oe with
    | false => rfl
    | true =>
      have := (I.effs e oe h3 h4).1 (bef_ready hD hr (W.effs e (p + k) oe o h2 h3 ho h4 hF))
      omega
  · intro j oj h1 h2 h3 h4
    exact bef_ready hD hr (W.alle j (p + k) oj o h2 h3 ho h4 hF)

theorem Inv.eff (W : Draw2 E call O c) (hB : B ≤ w0.heap.size) {D : List Nat} (hD : Closed O D) {p : Nat} {ρ ρ' : Ren} {tm : Tr Value} {w w' : World} (I : Inv E B O c ρ0 w0 D p ρ tm w) {i : Nat} {o : Oper} (ho : O[i]? = some o) (hi : i ∉ D)
    (hr : ∀ o, O[i]? = some o → ∀ p, p ∈ preds o → p ∈ D) (hF : isF E.P o = true) {v : Value} (hv : (c (i + 1)).tm = aput (c i).tm o.dst v) (t : Step E B ρ (c i).h w ρ' (c (i + 1)).h w') :
    ∃ ρ'', Inv E B O c ρ0 w0 (i :: D) (i + 1) ρ'' (aput tm o.dst v) w' ∧ (∀ b, live c D b = true → ρ'' b = ρ b) ∧ ∀ b, b < (c (i + 1)).h.next → ρ'' b = ρ' b := by
  have hlt : i < O.length := (List.getElem?_eq_some_iff.1 ho).1
  obtain ⟨hip, s, hlive⟩ := I.atE W hB hD ho hi hr hF
  have hag : ∀ b, live c D b = true → (fun b => if b < (c (i + 1)).h.next then ρ' b else ρ b) b = ρ b := by
    intro b hb
    simp only
    split
    · rename_i h1
      rcases Nat.lt_or_ge b (c i).h.next with h2 | h2
      · exact t.ext b h2
      · exact absurd hb (W.unused I.bd hi hlt h2 h1)
    · rfl
  have hmem : ∀ j, i + 1 ≤ j → j ∈ i :: D → j ∈ D := by
    intro j h1 h2
    simp only [List.mem_cons] at h2
    exact h2.resolve_left (by omega)
  have hhi : ∀ j oj, O[j]? = some oj → i + 1 ≤ j → ¬ (c j).h.next < (c (i + 1)).h.next := by
    intro j oj h1 h2
    have hjl : j < O.length := (List.getElem?_eq_some_iff.1 h1).1
    have := W.next_le' (a := i + 1) (b := j) h2 (by omega); omega
  refine ⟨fun b => if b < (c (i + 1)).h.next then ρ' b else ρ b, ⟨(s.trans t).congr fun b hb => if_pos hb, ?_, by omega, .inr ⟨i, o, ho, hF, rfl⟩, ?_, ?_, ?_, ?_, W.frstep I.fr ho hi hv, W.scqstep hD I.scq ho hr hv⟩, hag, fun b hb => if_pos hb⟩
  · intro k hk
    simp only [List.mem_cons] at hk
    rcases hk with rfl | hk
    · exact hlt
    · exact I.bd k hk
  · intro e oe h1 h2
    simp only [List.mem_cons]
    constructor
    · rintro (rfl | h)
      · omega
      · have := (I.effs e oe h1 h2).1 h; omega
    · intro h
      rcases Nat.lt_or_ge e i with h3 | h3
      · exact .inr (bef_ready hD hr (W.effs e i oe o h3 h1 ho h2 hF))
      · exact .inl (by omega)
  · intro j oj h1 h2 h3
    rcases Nat.lt_or_ge j i with h4 | h4
    · exact List.mem_cons_of_mem _ (bef_ready hD hr (W.alle j i oj o h4 h1 ho h2 hF))
    · have : j = i := by omega
      simp [this]
  · intro j oj h1 h2 h3 h4 h5
    have hjD := hmem j h3 h4
    obtain ⟨mk, ob, cc, g1, g2, g3, g4, g5, g6, g7⟩ := I.early j oj h1 h2 (by omega) hjD h5
    have e1 : (if (c j).h.next < (c (i + 1)).h.next then ρ' (c j).h.next else ρ (c j).h.next) = ρ (c j).h.next := if_neg (hhi j oj h1 h3)
    have hsz : (ρ (c j).h.next).r < w.heap.size := by
      rcases Nat.lt_or_ge (ρ (c j).h.next).r w.heap.size with h' | h'
      · exact h'
      · simp [Array.getElem?_eq_none h'] at g2
    have hnl : ∀ b o', (c i).h.get b = some o' → (ρ b).r ≠ (ρ (c j).h.next).r := by
      intro b o' hb
      rcases hlive b o' hb with ⟨o'', h⟩ | ⟨k, ok, k1, k2, k3, k4, k5, k6, rfl⟩
      · exact g7 b o'' h
      · exact I.dist k j ok oj k3 k4 k1 k5 k6 h1 h2 (by omega) hjD h5 (by omega)
    refine ⟨mk, ob, cc, g1, ?_, ?_, g4, scOQ_imp (live_imp fun k hk => List.mem_cons_of_mem _ hk) g5, ?_, ?_⟩
    · simp only [e1]; rw [t.frame _ hsz hnl]; exact g2
    · simp only [e1]; exact objR_congrQ hag g5 g3
    · simp only [e1]; exact g6
    · intro b o' hb
      simp only [e1]
      rw [if_pos (t.hr.live b o' hb).2.1]
      rcases t.range b o' hb with ⟨b0, o0, h6, h7⟩ | h6
      · rw [← h7]; exact hnl b0 o0 h6
      · omega
  · intro j k oj ok h1 h2 h3 h4 h5 k1 k2 k3 k4 k5 hjk
    simp only [if_neg (hhi j oj h1 h3), if_neg (hhi k ok k1 k3)]
    exact I.dist j k oj ok h1 h2 (by omega) (hmem j h3 h4) h5 k1 k2 (by omega) (hmem k k3 k4) k5 hjk
end
end Go.Tm
/- The engine, twenty-sixth part: regions that draw their order and make new memory in any order: the whole region. -/
namespace Go.Tm

theorem sc_of_live {c : Nat → St} {D : List Nat} {m : Nat} (h : ∀ b, live c D b = true → b < m) (v : Value) (hs : scQ (live c D) v = true) : sc m v = true := by
  rw [← sc_scQ]
  exact scQ_imp _ _ (fun b hb => by simpa using h b hb) v hs

theorem run_draw2 {E : Env} {B n : Nat} {ds : List Deferred} {rd : Option Nat} {call : Caller} (hcall : CallOk E B call) {ops : Array Oper} (hok : opsOk E.base n ops = true) {Q : Exit → Act → World → Prop} {c : Nat → St} (W : Draw2 E call ops.toList c)
    {ρ0 : Ren} {w0 : World} (hB : B ≤ w0.heap.size)
    (hq : ∀ ρ' a' w', Step E B ρ0 (c 0).h w0 ρ' (c ops.toList.length).h w' → FR ρ' n ds (c ops.toList.length).tm a' → Sc (c ops.toList.length) → Q .normal a' w') :
    ∀ (r D : List Nat) (p : Nat) (ρ : Ren) (tm : Tr Value) (w : World) (a : Act), Sched ops.toList D r → Closed ops.toList D → Inv E B ops.toList c ρ0 w0 D p ρ tm w → FR ρ n ds tm a → wpOpsIn (Wd rd) 0 E.P ops Q r a w
  | [], D, p, ρ, tm, w, a, hS, hD, I, F => by
    have hle := I.le
    obtain ⟨k, hk⟩ : ∃ k, ops.toList.length = p + k := ⟨ops.toList.length - p, by omega⟩
    obtain ⟨s, _⟩ := W.push hB I k (by omega) (by
      intro e o h1 h2 h3
      cases h4 : isF E.P o with
      | false => rfl
      | true =>
        have := (I.effs e o h3 h4).1 (hS e (by omega)); omega) (by
      intro j o h1 h2 h3 h4
      exact hS j (by omega))
    rw [← hk] at s
    have hfg : ∀ t, fget tm t = fget (c ops.toList.length).tm t := by
      intro t
      have C := W.canon ops.toList.length (Nat.le_refl _)
      by_cases hx : ∃ (j : Nat) (o' : Oper), ops.toList[j]? = some o' ∧ o'.dst = some t
      · obtain ⟨j, o', hj, hd⟩ := hx
        have hjl : j < ops.toList.length := (List.getElem?_eq_some_iff.1 hj).1
        rw [(I.fr t).1 j o' (hS j hjl) hj hd, (C t).1 j o' (by simpa using hjl) hj hd]
      · rw [(I.fr t).2 (fun j o' _ hj hd => hx ⟨j, o', hj, hd⟩), (C t).2 (fun j o' _ hj hd => hx ⟨j, o', hj, hd⟩)]
    refine hq ρ a w s ⟨F.defers, F.size, fun t ht => by rw [F.val t ht, hfg t]⟩ fun t => ?_
    rw [← hfg t]
    refine sc_of_live (D := D) ?_ _ (I.scq t)
    intro b hb
    simp only [live, inSpan, Bool.or_eq_true, List.any_eq_true, Bool.and_eq_true, decide_eq_true_eq] at hb
    rcases hb with hb | ⟨k', hk', h3, h4⟩
    · have := W.next_le' (a := 0) (b := ops.toList.length) (by omega) (Nat.le_refl _); omega
    · have := I.bd k' hk'
      have := W.next_le' (a := k' + 1) (b := ops.toList.length) (by omega) (Nat.le_refl _); omega
  | i :: r, D, p, ρ, tm, w, a, hS, hD, I, F => by
    obtain ⟨hlt, hni, hr, hS'⟩ := hS
    have ho : ops.toList[i]? = some ops.toList[i] := List.getElem?_eq_getElem hlt
    generalize ops.toList[i] = o at ho
    have ho' : ops[i]? = some o := by rw [← Array.getElem?_toList]; exact ho
    have hall : ∀ o, o ∈ ops → operOk E.base n o = true := by
      intro o ho
      simp only [opsOk, List.all_eq_true] at hok
      exact hok o (by simpa using ho)
    have hoo := hall o (Array.mem_of_getElem? ho')
    simp only [operOk, Bool.and_eq_true, List.all_eq_true] at hoo
    have hopd : ∀ x, x ∈ o.op.operands → opdOk E.base n x = true := fun x hx => hoo.1 x (by simpa using hx)
    have hw := wanted_eq F (ops := ops) (fun o ho => by have := hall o ho; simp only [operOk, Bool.and_eq_true] at this; exact this.2) o
    have hag := W.agree hD I.fr ho hni hr
    have hopa := opd_agree hag
    have hwa := awanted_agree hag
    simp only [wpOpsIn, ho', hw]
    rw [hwa]
    obtain ⟨v, hv, hcase⟩ := aop1_tm (W.run i o ho)
    have hC' := closed_cons hD hr
    have eu : ∀ ρ, ren ρ undef = undef := fun ρ => by simp [undef, ren, renA_eq]
    have go := run_draw2 (rd := rd) hcall hok W hB hq r (i :: D)
    rcases hcase with ⟨hwt, ha⟩ | ⟨hwt, rfl, hh⟩
    · rw [hwt]
      simp only [if_true]
      have hnd := aop_notDefer ha
      have hro : (Wd rd).round = rd := rfl
      have hex : execOp a.eval o = execOp (fun x => ren ρ (opd (c i).tm x)) o := execOp_congr (aop_notSelect ha) fun x hx => by rw [eval_opd I.st.hr F (hopd x hx), hopa x hx]
      cases hF : isF E.P o with
      | true =>
        obtain ⟨hip, s, _⟩ := I.atE W hB hD ho hni hr hF
        refine run_aop (s := c i) hcall ha s.hr (fun x hx => W.opds i o x ho (.inl hF) hwt hx) hex ?_ rd
        intro ρ' w' t hsv
        obtain ⟨ρ'', I', h1, h2⟩ := I.eff W hB hD ho hni hr hF hv t
        refine go (i + 1) ρ'' _ w' _ hS' hC' I' ?_
        have := F.putQ h1 I.scq hoo.2 v
        rw [ren_congr ρ' ρ'' _ h2 v hsv] at this
        exact this
      | false =>
        cases hA : isA E.P o with
        | true =>
          obtain ⟨mk, ob, h1, h2, h3⟩ := alloc_h hA ha
          obtain ⟨cc, g1, g2, g3, g4⟩ := run_aalloc (P := E.P) (ρ := ρ) (w := w) (n := (c i).h.next) (fun x hx => W.opds i o x ho (.inr hA) hwt hx) h1
          obtain ⟨I', h4⟩ := I.alloc W hD ho hni hr hA hwt hv h1 h3 g2 g3
          refine ⟨fun _ _ => trivial, ?_⟩
          rw [hro, Oper.semAt_eq rd a.eval o hnd, hex, g1]
          rw [h2] at I'
          exact go p _ _ _ _ hS' hC' I' (F.putQ h4 I.scq hoo.2 _)
        | false =>
          have I' := I.quiet W hD ho hni hr hF (fun h => by rw [hA] at h; cases h) hv
          have F' := F.putQ (ρ' := ρ) (fun _ _ => rfl) I.scq hoo.2 v
          have fin : o.wpIn (Wd rd) 0 E.P a w (fun a' w' => wpOpsIn (Wd rd) 0 E.P ops Q r a' w') Q := by
            have hq := quiet_h (isE_of hF hA) (W.run i o ho)
            rw [hq] at ha
            have hread : isR E.P o = true → aread E (c p).h (opd (c i).tm) o.op = aread E (c i).h (opd (c i).tm) o.op := by
              intro hR
              refine W.reads i o p ho hR hwt ?_ ?_
              · rcases I.form with h | ⟨e, oe, h1, h2, h3⟩
                · exact .inl h
                · refine .inr ⟨e, oe, h1, h2, h3, ?_⟩
                  cases h4 : bef (masks ops.toList []) i e with
                  | false => rfl
                  | true =>
                    have heD := (I.effs e oe h1 h2).2 (by omega)
                    exact absurd (bef_done hD _ _ heD h4) hni
              · intro e oe h1 h2 h3
                exact (I.effs e oe h1 h2).1 (bef_ready hD hr h3)
            have hq2 := quiet_op (call := call) (tm := (c i).tm) (h := (c p).h) (isE_of hF hA) (fun _ _ => rfl) ha hread
            refine ⟨fun _ _ => trivial, ?_⟩
            rw [hro, Oper.semAt_eq rd a.eval o hnd, hex]
            unfold aop at hq2
            have hE := isE_of hF hA
            unfold isE at hE
            cases hk : kindOf E.P o.op <;> simp only [hk] at hq2 hE
            · cases hp : apure E.P (opd (c i).tm) o.op with
              | none => simp [hp] at hq2
              | some v' =>
                simp [hp] at hq2
                subst hq2
                rw [run_apure (ρ := ρ) hp w]
                exact go p ρ _ w _ hS' hC' I' F'
            · cases hp : aread E (c p).h (opd (c i).tm) o.op with
              | none => simp [hp] at hq2
              | some v' =>
                simp [hp] at hq2
                subst hq2
                obtain ⟨h1, _⟩ := run_aread I.st.hr hp
                rw [h1]
                exact go p ρ _ w _ hS' hC' I' F'
            · cases hE
            · cases hE
          exact fin
    · rw [hwt]
      simp only [Bool.false_eq_true, if_false]
      refine ⟨fun _ _ => trivial, ?_⟩
      cases hF : isF E.P o with
      | true =>
        obtain ⟨hip, s, _⟩ := I.atE W hB hD ho hni hr hF
        have t : Step E B ρ (c i).h w ρ (c (i + 1)).h w := by rw [hh]; exact Step.refl s.hr
        obtain ⟨ρ'', I', h1, h2⟩ := I.eff W hB hD ho hni hr hF hv t
        refine go (i + 1) ρ'' _ w _ hS' hC' I' ?_
        have := F.putQ h1 I.scq hoo.2 undef
        rw [eu] at this
        exact this
      | false =>
        have I' := I.quiet W hD ho hni hr hF (fun _ => hwt) hv
        have F' := F.putQ (ρ' := ρ) (fun _ _ => rfl) I.scq hoo.2 undef
        rw [eu] at F'
        exact go p ρ _ w _ hS' hC' I' F'
end Go.Tm
namespace Go.Tm

def dstat2 (P : Program) (O : List Oper) (M : List Nat) : Bool :=
  (O.zipIdx.all fun x => (preds x.1).all fun p => decide (p < x.2)) &&
  nodupB (O.filterMap (·.dst)) &&
  (O.zipIdx.all fun x => (rdTmps O x.1).all fun t => O.zipIdx.all fun y => (match y.1.dst with
    | some d => !(d == t)
    | none => true) || (bef M y.2 x.2 || (bef M x.2 y.2 || x.2 == y.2))) &&
  ((O.zipIdx.filter fun x => isF P x.1).all fun y =>
    ((O.zipIdx.filter fun x => isF P x.1).all fun x => !decide (x.2 < y.2) || bef M x.2 y.2) &&
    ((O.zipIdx.filter fun x => isA P x.1).all fun x => !decide (x.2 < y.2) || bef M x.2 y.2))

def readsOk (E : Env) (M : List Nat) (c : Nat → St) (fs : List (Oper × Nat)) (o : Oper) (i : Nat) : Bool :=
  (0 :: (fs.filter fun e => !bef M i e.2).map fun e => e.2 + 1).all fun p =>
    (fs.any fun e => bef M e.2 i && !decide (e.2 < p)) ||
      (match aread E (c p).h (opd (c i).tm) o.op, aread E (c i).h (opd (c i).tm) o.op with
       | some u, some v => veq u v
       | _, _ => false)

def ddyn2 (E : Env) (O : List Oper) (M : List Nat) (c : Nat → St) : Bool :=
  ((O.zipIdx.filter fun x => isR E.P x.1).all fun x => !awanted O (c x.2).tm x.1 || readsOk E M c (O.zipIdx.filter fun x => isF E.P x.1) x.1 x.2) &&
  (O.zipIdx.all fun x => decide ((c x.2).h.next ≤ (c (x.2 + 1)).h.next)) &&
  ((O.zipIdx.filter fun x => isF E.P x.1 || isA E.P x.1).all fun x => !awanted O (c x.2).tm x.1 || x.1.op.operands.toList.all fun y => sc (c x.2).h.next (opd (c x.2).tm y)) &&
  (O.zipIdx.all fun x => match x.1.dst with
    | some d => scQ (live c (x.2 :: befs M x.2)) (fget (c (x.2 + 1)).tm d)
    | none => true) &&
  ((O.zipIdx.filter fun x => isA E.P x.1).all fun x => !awanted O (c x.2).tm x.1 || (match aalloc E.P (opd (c x.2).tm) x.1.op with
    | some p => scOQb (live c (befs M x.2)) p.2
    | none => false))

theorem draw2_of {E : Env} {call : Caller} {O : List Oper} {s : St} {tr : List St} (ht : trace E call O O s = some tr) (h1 : dstat2 E.P O (masks O []) = true) (h2 : ddyn2 E O (masks O []) (sget tr s) = true) :
    Draw2 E call O (sget tr s) := by
  obtain ⟨t0, t1⟩ := trace_at O s tr ht
  simp only [dstat2, Bool.and_eq_true, List.all_eq_true, List.mem_filter] at h1
  obtain ⟨⟨⟨a1, a2⟩, a3⟩, a4⟩ := h1
  simp only [ddyn2, Bool.and_eq_true, List.all_eq_true, List.mem_filter] at h2
  obtain ⟨⟨⟨⟨b1, b2⟩, b3⟩, b4⟩, b5⟩ := h2
  refine ⟨?_, ?_, nodupB_at O a2, ?_, ?_, ?_, ?_, ?_, ?_, ?_, ?_⟩
  · intro i o ho
    obtain ⟨s1, s2, g1, g2, g3⟩ := t1 i o ho
    have e1 : sget tr s i = s1 := by simp [sget, List.getD, g1]
    have e2 : sget tr s (i + 1) = s2 := by simp [sget, List.getD, g2]
    rw [e1, e2]; exact g3
  · intro i o ho p hp
    have := a1 _ (mem_ix ho) p hp
    simpa using this
  · intro i o t j o' ho ht' hj hd
    have := a3 _ (mem_ix ho) t ht' _ (mem_ix hj)
    simp only [hd, Bool.or_eq_true, Bool.not_eq_true', beq_eq_false_iff_ne, ne_eq, not_true_eq_false, false_or, beq_iff_eq] at this
    exact this
  · intro a b o o' hab ha hb hE hE'
    have := (a4 _ ⟨mem_ix hb, hE'⟩).1 _ ⟨mem_ix ha, hE⟩
    simp only [Bool.or_eq_true, Bool.not_eq_true', decide_eq_false_iff_not] at this
    exact this.resolve_left (fun h => h hab)
  · intro a b o o' hab ha hb hE hE'
    have := (a4 _ ⟨mem_ix hb, hE'⟩).2 _ ⟨mem_ix ha, hE⟩
    simp only [Bool.or_eq_true, Bool.not_eq_true', decide_eq_false_iff_not] at this
    exact this.resolve_left (fun h => h hab)
  · intro i o p ho hR hw hp hbe
    have := b1 _ ⟨mem_ix ho, hR⟩
    simp only [hw, Bool.not_true, Bool.false_or, readsOk, List.all_eq_true] at this
    have := this p (by
      rcases hp with rfl | ⟨e, oe, h1, h2, rfl, h3⟩
      · simp
      · refine List.mem_cons_of_mem _ (List.mem_map.2 ⟨(oe, e), List.mem_filter.2 ⟨List.mem_filter.2 ⟨mem_ix h1, h2⟩, by simp [h3]⟩, rfl⟩))
    simp only [Bool.or_eq_true] at this
    rcases this with h | h
    · simp only [List.any_eq_true, List.mem_filter, Bool.and_eq_true, Bool.not_eq_true', decide_eq_false_iff_not] at h
      obtain ⟨⟨oe, e⟩, ⟨h1, h2⟩, h3, h4⟩ := h
      have := List.mk_mem_zipIdx_iff_getElem?.1 h1
      exact absurd (hbe e oe this h2 h3) h4
    · split at h
      · rename_i u v g1 g2
        rw [g1, g2, veq_eq _ _ h]
      · cases h
  · intro i hi
    have := b2 _ (mem_ix (List.getElem?_eq_getElem hi))
    simpa using this
  · intro i o x ho hk hw hx
    have := b3 _ ⟨mem_ix ho, by simpa using hk⟩
    simp only [hw, Bool.not_true, Bool.false_or, List.all_eq_true] at this
    exact this x (by simpa using hx)
  · intro i o d ho hd
    have := b4 _ (mem_ix ho)
    simp only [hd] at this
    exact this
  · intro i o mk ob ho hA hw ha
    have := b5 _ ⟨mem_ix ho, hA⟩
    simp only [hw, Bool.not_true, Bool.false_or, ha] at this
    exact scOQ_of this

/-- A region that draws its order. -/
def adrawX (E : Env) (call : Caller) (O : List Oper) (s : St) : Option St :=
  match trace E call O O s with
  | some tr =>
    if dstat E.P O (masks O []) (spOf E.P O (masks O [])) = true then
      (if ddyn E O (masks O []) (spOf E.P O (masks O [])) (sget tr s) = true then some (sget tr s O.length) else none)
    else if dstat2 E.P O (masks O []) = true ∧ ddyn2 E O (masks O []) (sget tr s) = true then some (sget tr s O.length) else none
  | none => none

theorem adrawX_cases {E : Env} {call : Caller} {O : List Oper} {s s' : St} (h : adrawX E call O s = some s') : adraw E call O s = some s' ∨ ∃ c, Draw2 E call O c ∧ c 0 = s ∧ c O.length = s' := by
  unfold adrawX at h
  cases ht : trace E call O O s with
  | none => simp [ht] at h
  | some tr =>
    simp only [ht] at h
    split at h
    · rename_i h1
      split at h
      · rename_i h2
        left
        unfold adraw
        simp only [ht]
        rw [if_pos ⟨h1, h2⟩]; exact h
      · cases h
    · split at h
      · rename_i h1
        right
        refine ⟨sget tr s, draw2_of ht h1.1 h1.2, ?_, by simpa using h⟩
        have := (trace_at O s tr ht).1
        simp [sget, List.getD, this]
      · cases h

theorem inv_start {E : Env} {B : Nat} {O : List Oper} {c : Nat → St} {ρ : Ren} {w : World} (H : HR E B ρ (c 0).h w) (S : Sc (c 0)) : Inv E B O c ρ w [] 0 ρ (c 0).tm w where
  st := Step.refl H
  bd := fun k hk => by simp at hk
  le := Nat.zero_le _
  form := .inl rfl
  effs := fun e o _ _ => by simp
  allocs := fun j o _ _ h => by omega
  early := fun j o _ _ _ h => by simp at h
  dist := fun j k o o' _ _ _ h => by simp at h
  fr := fun t => ⟨fun j o hj => by simp at hj, fun _ => rfl⟩
  scq := fun t => by
    have := S t
    rw [← sc_scQ] at this
    exact scQ_imp _ _ (fun b hb => by simp only [live, hb, Bool.true_or]) _ this

/-- No range over a function within. -/
def flat : Code → Bool
  | .rangeFunc _ _ _ _ => false
  | .seq a b => flat a && flat b
  | .cond _ a b => flat a && flat b
  | .block _ b => flat b
  | .loop b => flat b
  | .scope b => flat b
  | _ => true

/-- The rounds of a range over a function, from round i on. -/
def arange (run : Code → St → Option (Ex × St)) (it : Heap → Nat → Option (Option Value)) (p : Nat) (assign body : Code) (tm : Tr Value) : Nat → Nat → Heap → Option (Ex × St)
  | 0, _, _ => none
  | k + 1, i, h => match it h i with
    | none => none
    | some none => some (.normal, ⟨tm, h⟩)
    | some (some v) => match run assign ⟨tm.set p (some v), h⟩ with
      | some (.normal, s1) => match run body s1 with
        | some (.normal, s2) => arange run it p assign body tm k (i + 1) s2.h
        | some (e, s2) => some (e, ⟨tm, s2.h⟩)
        | none => none
      | _ => none

/-- The iterator that a value is. -/
def aiter (E : Env) (g : Value) : Option (Heap → Nat → Option (Option Value)) :=
  match g with
  | .func (.func f) ⟨[]⟩ cap => some (E.iter f cap.toList)
  | _ => none

def aexec (E : Env) : Nat → Code → St → Option (Ex × St)
  | 0, _, _ => none
  | n + 1, c, s =>
    match c with
    | .skip => some (.normal, s)
    | .label _ => some (.normal, s)
    | .ret => some (.ret, s)
    | .exit id => some (.exit id, s)
    | .goto l => some (.goto l, s)
    | .seq a b => match aexec E n a s with
      | some (.normal, s') => aexec E n b s'
      | r => r
    | .cond c a b => match opd s.tm c with
      | .bool true => aexec E n a s
      | .bool false => aexec E n b s
      | _ => none
    | .block id b => match aexec E n b s with
      | some (.exit id', s') => if id' = id then some (.normal, s') else some (.exit id', s')
      | r => r
    | .loop b => arounds (aexec E n b) n s
    | .scope b => ascope (aexec E n) b n b s
    | .region _ ops false => (aops E (acallBy E (aexec E n)) ops.toList ops.toList s).map fun s' => (.normal, s')
    | .region _ ops true => (adrawX E (acallBy E (aexec E n)) ops.toList s).map fun s' => (.normal, s')
    | .rangeFunc g ps assign body => match aiter E (opd s.tm g), ps.toList with
      | some it, [p] => if flat assign = true ∧ flat body = true then arange (aexec E n) it p assign body s.tm n 0 s.h else none
      | _, _ => none
    | _ => none

def acall (E : Env) (n : Nat) (f : FuncId) (args : List Value) (h : Heap) : Option (Value × Heap) := acallBy E (aexec E n) f args h
end Go.Tm
