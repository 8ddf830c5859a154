/- The engine, twenty-fourth part: regions that draw their order and make new memory in any order. -/
import Derived.Test.YtigifaghgnbgoaaGreatEng23
namespace Go.Tm

def inSpan (c : Nat → St) (k b : Nat) : Bool := decide ((c k).h.next ≤ b) && decide (b < (c (k + 1)).h.next)
def live (c : Nat → St) (D : List Nat) (b : Nat) : Bool := decide (b < (c 0).h.next) || D.any fun k => inSpan c k b
def befs (M : List Nat) (i : Nat) : List Nat := (List.range i).filter fun k => bef M k i

structure Draw2 (E : Env) (call : Caller) (O : List Oper) (c : Nat → St) : Prop where
  run : ∀ (i : Nat) (o : Oper), O[i]? = some o → aop1 E call O o (c i) = some (c (i + 1))
  down : Down O
  dsts : ∀ (i j : Nat) (o o' : Oper) (d : Nat), O[i]? = some o → O[j]? = some o' → o.dst = some d → o'.dst = some d → i = j
  rds : ∀ (i : Nat) (o : Oper) (t j : Nat) (o' : Oper), O[i]? = some o → t ∈ rdTmps O o → O[j]? = some o' → o'.dst = some t → bef (masks O []) j i = true ∨ bef (masks O []) i j = true ∨ i = j
  effs : ∀ (a b : Nat) (o o' : Oper), a < b → O[a]? = some o → O[b]? = some o' → isF E.P o = true → isF E.P o' = true → bef (masks O []) a b = true
  alle : ∀ (a b : Nat) (o o' : Oper), a < b → O[a]? = some o → O[b]? = some o' → isA E.P o = true → isF E.P o' = true → bef (masks O []) a b = true
  reads : ∀ (i : Nat) (o : Oper) (p : Nat), O[i]? = some o → isR E.P o = true → awanted O (c i).tm o = true → (p = 0 ∨ ∃ e oe, O[e]? = some oe ∧ isF E.P oe = true ∧ p = e + 1 ∧ bef (masks O []) i e = false) →
    (∀ e oe, O[e]? = some oe → isF E.P oe = true → bef (masks O []) e i = true → e < p) → aread E (c p).h (opd (c i).tm) o.op = aread E (c i).h (opd (c i).tm) o.op
  mono : ∀ i, i < O.length → (c i).h.next ≤ (c (i + 1)).h.next
  opds : ∀ (i : Nat) (o : Oper) (x : Operand), O[i]? = some o → isF E.P o = true ∨ isA E.P o = true → awanted O (c i).tm o = true → x ∈ o.op.operands → sc (c i).h.next (opd (c i).tm x) = true
  vals : ∀ (i : Nat) (o : Oper) (d : Nat), O[i]? = some o → o.dst = some d → scQ (live c (i :: befs (masks O []) i)) (fget (c (i + 1)).tm d) = true
  objs : ∀ (i : Nat) (o : Oper) (mk : Nat → Value) (ob : AObj), O[i]? = some o → isA E.P o = true → awanted O (c i).tm o = true → aalloc E.P (opd (c i).tm) o.op = some (mk, ob) → scOQ (live c (befs (masks O []) i)) ob

section
variable {E : Env} {call : Caller} {O : List Oper} {c : Nat → St}

theorem Draw2.canon (W : Draw2 E call O c) : ∀ i, i ≤ O.length → Fr O c (List.range i) (c i).tm
  | 0, _ => fun t => ⟨fun j o hj => by simp at hj, fun _ => rfl⟩
  | i + 1, hi => by
    have ih := W.canon i (by omega)
    have ho : O[i]? = some O[i] := List.getElem?_eq_getElem (by omega)
    obtain ⟨v, hv, _⟩ := aop1_tm (W.run i _ ho)
    intro t
    rw [hv]
    constructor
    · intro j o hj hjo hd
      rw [fget_aput]
      by_cases e : j = i
      · subst e
        rw [ho] at hjo; injection hjo with hjo; subst hjo
        rw [hv, fget_aput]
      · have hji : j < i := by simp at hj; omega
        have : ¬ (O[i].dst = some t) := fun h => e (W.dsts j i o _ t hjo ho hd h)
        rw [if_neg this]
        exact (ih t).1 j o (by simpa using hji) hjo hd
    · intro hn
      rw [fget_aput, if_neg (hn i _ (by simp) ho)]
      exact (ih t).2 fun j o hj hjo => hn j o (by simp at hj ⊢; omega) hjo

theorem Draw2.agree (W : Draw2 E call O c) {D : List Nat} (hD : Closed O D) {tm : Tr Value} (F : Fr O c D tm) {i : Nat} {o : Oper} (ho : O[i]? = some o) (hi : i ∉ D) (hr : ∀ o, O[i]? = some o → ∀ p, p ∈ preds o → p ∈ D) :
    ∀ t, t ∈ rdTmps O o → fget tm t = fget (c i).tm t := by
  intro t ht
  have hlen : i < O.length := (List.getElem?_eq_some_iff.1 ho).1
  have C := W.canon i (by omega)
  by_cases hx : ∃ (j : Nat) (o' : Oper), O[j]? = some o' ∧ o'.dst = some t
  · obtain ⟨j, o', hj, hd⟩ := hx
    rcases W.rds i o t j o' ho ht hj hd with h | h | h
    · have h1 := bef_ready hD hr h
      have h2 := bef_lt W.down i j h
      rw [(F t).1 j o' h1 hj hd, (C t).1 j o' (by simpa using h2) hj hd]
    · have h1 : j ∉ D := fun hjD => hi (bef_done hD j i hjD h)
      have h2 := bef_lt W.down j i h
      rw [(F t).2 (fun k ok hk hok hdk => by have := W.dsts j k o' ok t hj hok hd hdk; subst this; exact h1 hk),
        (C t).2 (fun k ok hk hok hdk => by have := W.dsts j k o' ok t hj hok hd hdk; subst this; simp at hk; omega)]
    · subst h
      rw [(F t).2 (fun k ok hk hok hdk => by have := W.dsts i k o' ok t hj hok hd hdk; subst this; exact hi hk),
        (C t).2 (fun k ok hk hok hdk => by have := W.dsts i k o' ok t hj hok hd hdk; subst this; simp at hk)]
  · have hn : ∀ (D' : List Nat) (j : Nat) (o' : Oper), j ∈ D' → O[j]? = some o' → o'.dst ≠ some t := fun _ j o' _ hj hd => hx ⟨j, o', hj, hd⟩
    rw [(F t).2 (hn D), (C t).2 (hn _)]

theorem Draw2.frstep {D : List Nat} {tm : Tr Value} (W : Draw2 E call O c) (F : Fr O c D tm) {i : Nat} {o : Oper} (ho : O[i]? = some o) (hi : i ∉ D) {v : Value} (hv : (c (i + 1)).tm = aput (c i).tm o.dst v) : Fr O c (i :: D) (aput tm o.dst v) := by
  intro t
  constructor
  · intro j oj hj hoj hd
    rw [fget_aput]
    by_cases e : j = i
    · subst e
      rw [ho] at hoj; injection hoj with hoj; subst hoj
      rw [hv, fget_aput, if_pos hd, if_pos hd]
    · have hjD : j ∈ D := by simp only [List.mem_cons] at hj; exact hj.resolve_left e
      rw [if_neg (fun h => e (W.dsts j i oj o t hoj ho hd h))]
      exact (F t).1 j oj hjD hoj hd
  · intro hn
    rw [fget_aput, if_neg (hn i o (by simp) ho)]
    exact (F t).2 fun j oj hj hoj => hn j oj (List.mem_cons_of_mem _ hj) hoj

theorem live_imp {D D' : List Nat} (h : ∀ k, k ∈ D → k ∈ D') : ∀ b, live c D b = true → live c D' b = true := by
  intro b hb
  simp only [live, Bool.or_eq_true, List.any_eq_true] at hb ⊢
  rcases hb with hb | ⟨k, hk, hb⟩
  · exact .inl hb
  · exact .inr ⟨k, h k hk, hb⟩

theorem Draw2.next_le (W : Draw2 E call O c) {a : Nat} : ∀ k, a + k ≤ O.length → (c a).h.next ≤ (c (a + k)).h.next
  | 0, _ => Nat.le_refl _
  | k + 1, h => Nat.le_trans (W.next_le k (by omega)) (W.mono (a + k) (by omega))

theorem Draw2.next_le' (W : Draw2 E call O c) {a b : Nat} (hab : a ≤ b) (hb : b ≤ O.length) : (c a).h.next ≤ (c b).h.next := by
  obtain ⟨k, rfl⟩ : ∃ k, b = a + k := ⟨b - a, by omega⟩
  exact W.next_le k hb

/-- A name that an operation not yet done gives is not in use. -/
theorem Draw2.unused (W : Draw2 E call O c) {D : List Nat} (hb : ∀ k, k ∈ D → k < O.length) {i b : Nat} (hi : i ∉ D) (hlt : i < O.length) (h1 : (c i).h.next ≤ b) (h2 : b < (c (i + 1)).h.next) : ¬ (live c D b = true) := by
  intro h
  simp only [live, inSpan, Bool.or_eq_true, List.any_eq_true, Bool.and_eq_true, decide_eq_true_eq] at h
  rcases h with h | ⟨k, hk, h3, h4⟩
  · have := W.next_le' (a := 0) (b := i) (by omega) (by omega); omega
  · have hkl := hb k hk
    rcases Nat.lt_trichotomy k i with h5 | h5 | h5
    · have := W.next_le' (a := k + 1) (b := i) (by omega) (by omega); omega
    · subst h5; exact hi hk
    · have := W.next_le' (a := i + 1) (b := k) (by omega) (by omega); omega

def Early (E : Env) (c : Nat → St) (w0 : World) (D : List Nat) (p : Nat) (ρ : Ren) (w : World) (j : Nat) (o : Oper) : Prop :=
  ∃ mk ob cc, aalloc E.P (opd (c j).tm) o.op = some (mk, ob) ∧ w.heap[(ρ (c j).h.next).r]? = some cc ∧ objR E.P ρ (ρ (c j).h.next) ob cc ∧ scO (c j).h.next ob ∧ scOQ (live c D) ob ∧ w0.heap.size ≤ (ρ (c j).h.next).r ∧
    ∀ b o', (c p).h.get b = some o' → (ρ b).r ≠ (ρ (c j).h.next).r

structure Inv (E : Env) (B : Nat) (O : List Oper) (c : Nat → St) (ρ0 : Ren) (w0 : World) (D : List Nat) (p : Nat) (ρ : Ren) (tm : Tr Value) (w : World) : Prop where
  st : Step E B ρ0 (c 0).h w0 ρ (c p).h w
  bd : ∀ k, k ∈ D → k < O.length
  le : p ≤ O.length
  form : p = 0 ∨ ∃ e oe, O[e]? = some oe ∧ isF E.P oe = true ∧ p = e + 1
  effs : ∀ e o, O[e]? = some o → isF E.P o = true → (e ∈ D ↔ e < p)
  allocs : ∀ j o, O[j]? = some o → isA E.P o = true → j < p → j ∈ D
  early : ∀ j o, O[j]? = some o → isA E.P o = true → p ≤ j → j ∈ D → awanted O (c j).tm o = true → Early E c w0 D p ρ w j o
  dist : ∀ j k o o', O[j]? = some o → isA E.P o = true → p ≤ j → j ∈ D → awanted O (c j).tm o = true → O[k]? = some o' → isA E.P o' = true → p ≤ k → k ∈ D → awanted O (c k).tm o' = true → j ≠ k →
    (ρ (c j).h.next).r ≠ (ρ (c k).h.next).r
  fr : Fr O c D tm
  scq : ∀ t, scQ (live c D) (fget tm t) = true

theorem isE_of {P : Program} {o : Oper} (h1 : isF P o = false) (h2 : isA P o = false) : isE P o = false := by
  unfold isF at h1; unfold isA at h2; unfold isE
  cases hk : kindOf P o.op <;> simp only [hk] at h1 h2 ⊢ <;> contradiction

theorem alloc_h {o : Oper} (hA : isA E.P o = true) {s : St} {v : Value} {h' : Heap} (ha : aop E call o.op s = some (v, h')) : ∃ mk ob, aalloc E.P (opd s.tm) o.op = some (mk, ob) ∧ v = mk s.h.next ∧ h' = s.h.push ob := by
  unfold aop at ha
  unfold isA at hA
  cases hk : kindOf E.P o.op <;> simp only [hk] at ha hA
  · cases hA
  · cases hA
  · cases hp : aalloc E.P (opd s.tm) o.op with
    | none => simp [hp] at ha
    | some p =>
      simp [hp] at ha
      exact ⟨p.1, p.2, rfl, ha.1.symm, ha.2.symm⟩
  · cases hA

/-- All that was made early gets its name. -/
theorem Draw2.push (W : Draw2 E call O c) {B : Nat} {ρ0 ρ : Ren} {w0 w : World} (hB : B ≤ w0.heap.size) {D : List Nat} {p : Nat} {tm : Tr Value} (I : Inv E B O c ρ0 w0 D p ρ tm w) : ∀ k, p + k ≤ O.length →
    (∀ e o, p ≤ e → e < p + k → O[e]? = some o → isF E.P o = false) → (∀ j o, p ≤ j → j < p + k → O[j]? = some o → isA E.P o = true → j ∈ D) →
    Step E B ρ0 (c 0).h w0 ρ (c (p + k)).h w ∧ ∀ b o, (c (p + k)).h.get b = some o → (∃ o', (c p).h.get b = some o') ∨ ∃ j oj, p ≤ j ∧ j < p + k ∧ O[j]? = some oj ∧ isA E.P oj = true ∧ j ∈ D ∧ awanted O (c j).tm oj = true ∧ b = (c j).h.next
  | 0, _, _, _ => ⟨I.st, fun b o h => .inl ⟨o, h⟩⟩
  | k + 1, hl, hF, hA => by
    obtain ⟨s, hlive⟩ := W.push hB I k (by omega) (fun e o h1 h2 => hF e o h1 (by omega)) (fun j o h1 h2 => hA j o h1 (by omega))
    have ho : O[p + k]? = some O[p + k] := List.getElem?_eq_getElem (by omega)
    generalize O[p + k] = o at ho
    have hnF := hF (p + k) o (by omega) (by omega) ho
    have hlive' : ∀ b o, (c (p + k)).h.get b = some o → (∃ o', (c p).h.get b = some o') ∨ ∃ j oj, p ≤ j ∧ j < p + (k + 1) ∧ O[j]? = some oj ∧ isA E.P oj = true ∧ j ∈ D ∧ awanted O (c j).tm oj = true ∧ b = (c j).h.next := by
      intro b o hb
      rcases hlive b o hb with h | ⟨j, oj, h1, h2, h3⟩
      · exact .inl h
      · exact .inr ⟨j, oj, h1, by omega, h3⟩
    have run := W.run (p + k) o ho
    rw [show p + (k + 1) = p + k + 1 by omega] at hlive' ⊢
    cases hAo : isA E.P o with
    | false =>
      rw [quiet_h (isE_of hnF hAo) run]
      exact ⟨s, hlive'⟩
    | true =>
      have hD := hA (p + k) o (by omega) (by omega) ho hAo
      obtain ⟨v, _, ⟨hw, ha⟩ | ⟨hw, _, he⟩⟩ := aop1_tm run
      · obtain ⟨mk, ob, ha1, _, ha2⟩ := alloc_h hAo ha
        obtain ⟨mk', ob', cc, g1, g2, g3, g4, g5, g6, g7⟩ := I.early (p + k) o ho hAo (by omega) hD hw
        rw [ha1] at g1
        simp only [Option.some.injEq, Prod.mk.injEq] at g1
        obtain ⟨rfl, rfl⟩ := g1
        rw [ha2]
        refine ⟨s.pushOld g4 (by omega) g6 g2 g3 ?_, ?_⟩
        · intro b o' hb
          rcases hlive b o' hb with ⟨o'', h⟩ | ⟨j, oj, h1, h2, h3, h4, h5, h6, h7⟩
          · exact g7 b o'' h
          · subst h7
            exact I.dist j (p + k) oj o h3 h4 h1 h5 h6 ho hAo (by omega) hD hw (by omega)
        · intro b o' hb
          rw [get_push] at hb
          by_cases e : (c (p + k)).h.next = b
          · exact .inr ⟨p + k, o, by omega, by omega, ho, hAo, hD, hw, e.symm⟩
          · rw [if_neg e] at hb; exact hlive' b o' hb
      · rw [he]; exact ⟨s, hlive'⟩
end
end Go.Tm
