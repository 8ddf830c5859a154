/- The engine, twenty-seventh part: the look at regions that draw; the run of code. -/
import Derived.Test.YtigifaghgnbgoaaGreatEng26
namespace Go.Tm

def dstat2 (P : Program) (O : List Oper) (M : List Nat) : Bool :=
  (O.zipIdx.all fun x => (preds x.1).all fun p => decide (p < x.2)) &&
  nodupB (O.filterMap (·.dst)) &&
  (O.zipIdx.all fun x => (rdTmps O x.1).all fun t => O.zipIdx.all fun y => (match y.1.dst with
    | some d => !(d == t)
    | none => true) || (bef M y.2 x.2 || (bef M x.2 y.2 || x.2 == y.2))) &&
  ((O.zipIdx.filter fun x => isF P x.1).all fun y =>
    ((O.zipIdx.filter fun x => isF P x.1).all fun x => !decide (x.2 < y.2) || bef M x.2 y.2) &&
    ((O.zipIdx.filter fun x => isA P x.1).all fun x => !decide (x.2 < y.2) || bef M x.2 y.2))

def readsOk (E : Env) (M : List Nat) (c : Nat → St) (fs : List (Oper × Nat)) (o : Oper) (i : Nat) : Bool :=
  (0 :: (fs.filter fun e => !bef M i e.2).map fun e => e.2 + 1).all fun p =>
    (fs.any fun e => bef M e.2 i && !decide (e.2 < p)) ||
      (match aread E (c p).h (opd (c i).tm) o.op, aread E (c i).h (opd (c i).tm) o.op with
       | some u, some v => veq u v
       | _, _ => false)

def ddyn2 (E : Env) (O : List Oper) (M : List Nat) (c : Nat → St) : Bool :=
  ((O.zipIdx.filter fun x => isR E.P x.1).all fun x => !awanted O (c x.2).tm x.1 || readsOk E M c (O.zipIdx.filter fun x => isF E.P x.1) x.1 x.2) &&
  (O.zipIdx.all fun x => decide ((c x.2).h.next ≤ (c (x.2 + 1)).h.next)) &&
  ((O.zipIdx.filter fun x => isF E.P x.1 || isA E.P x.1).all fun x => !awanted O (c x.2).tm x.1 || x.1.op.operands.toList.all fun y => sc (c x.2).h.next (opd (c x.2).tm y)) &&
  (O.zipIdx.all fun x => match x.1.dst with
    | some d => scQ (live c (x.2 :: befs M x.2)) (fget (c (x.2 + 1)).tm d)
    | none => true) &&
  ((O.zipIdx.filter fun x => isA E.P x.1).all fun x => !awanted O (c x.2).tm x.1 || (match aalloc E.P (opd (c x.2).tm) x.1.op with
    | some p => scOQb (live c (befs M x.2)) p.2
    | none => false))

theorem draw2_of {E : Env} {call : Caller} {O : List Oper} {s : St} {tr : List St} (ht : trace E call O O s = some tr) (h1 : dstat2 E.P O (masks O []) = true) (h2 : ddyn2 E O (masks O []) (sget tr s) = true) :
    Draw2 E call O (sget tr s) := by
  obtain ⟨t0, t1⟩ := trace_at O s tr ht
  simp only [dstat2, Bool.and_eq_true, List.all_eq_true, List.mem_filter] at h1
  obtain ⟨⟨⟨a1, a2⟩, a3⟩, a4⟩ := h1
  simp only [ddyn2, Bool.and_eq_true, List.all_eq_true, List.mem_filter] at h2
  obtain ⟨⟨⟨⟨b1, b2⟩, b3⟩, b4⟩, b5⟩ := h2
  refine ⟨?_, ?_, nodupB_at O a2, ?_, ?_, ?_, ?_, ?_, ?_, ?_, ?_⟩
  · intro i o ho
    obtain ⟨s1, s2, g1, g2, g3⟩ := t1 i o ho
    have e1 : sget tr s i = s1 := by simp [sget, List.getD, g1]
    have e2 : sget tr s (i + 1) = s2 := by simp [sget, List.getD, g2]
    rw [e1, e2]; exact g3
  · intro i o ho p hp
    have := a1 _ (mem_ix ho) p hp
    simpa using this
  · intro i o t j o' ho ht' hj hd
    have := a3 _ (mem_ix ho) t ht' _ (mem_ix hj)
    simp only [hd, Bool.or_eq_true, Bool.not_eq_true', beq_eq_false_iff_ne, ne_eq, not_true_eq_false, false_or, beq_iff_eq] at this
    exact this
  · intro a b o o' hab ha hb hE hE'
    have := (a4 _ ⟨mem_ix hb, hE'⟩).1 _ ⟨mem_ix ha, hE⟩
    simp only [Bool.or_eq_true, Bool.not_eq_true', decide_eq_false_iff_not] at this
    exact this.resolve_left (fun h => h hab)
  · intro a b o o' hab ha hb hE hE'
    have := (a4 _ ⟨mem_ix hb, hE'⟩).2 _ ⟨mem_ix ha, hE⟩
    simp only [Bool.or_eq_true, Bool.not_eq_true', decide_eq_false_iff_not] at this
    exact this.resolve_left (fun h => h hab)
  · intro i o p ho hR hw hp hbe
    have := b1 _ ⟨mem_ix ho, hR⟩
    simp only [hw, Bool.not_true, Bool.false_or, readsOk, List.all_eq_true] at this
    have := this p (by
      rcases hp with rfl | ⟨e, oe, h1, h2, rfl, h3⟩
      · simp
      · refine List.mem_cons_of_mem _ (List.mem_map.2 ⟨(oe, e), List.mem_filter.2 ⟨List.mem_filter.2 ⟨mem_ix h1, h2⟩, by simp [h3]⟩, rfl⟩))
    simp only [Bool.or_eq_true] at this
    rcases this with h | h
    · simp only [List.any_eq_true, List.mem_filter, Bool.and_eq_true, Bool.not_eq_true', decide_eq_false_iff_not] at h
      obtain ⟨⟨oe, e⟩, ⟨h1, h2⟩, h3, h4⟩ := h
      have := List.mk_mem_zipIdx_iff_getElem?.1 h1
      exact absurd (hbe e oe this h2 h3) h4
    · split at h
      · rename_i u v g1 g2
        rw [g1, g2, veq_eq _ _ h]
      · cases h
  · intro i hi
    have := b2 _ (mem_ix (List.getElem?_eq_getElem hi))
    simpa using this
  · intro i o x ho hk hw hx
    have := b3 _ ⟨mem_ix ho, by simpa using hk⟩
    simp only [hw, Bool.not_true, Bool.false_or, List.all_eq_true] at this
    exact this x (by simpa using hx)
  · intro i o d ho hd
    have := b4 _ (mem_ix ho)
    simp only [hd] at this
    exact this
  · intro i o mk ob ho hA hw ha
    have := b5 _ ⟨mem_ix ho, hA⟩
    simp only [hw, Bool.not_true, Bool.false_or, ha] at this
    exact scOQ_of this

/-- A region that draws its order. -/
def adrawX (E : Env) (call : Caller) (O : List Oper) (s : St) : Option St :=
  match trace E call O O s with
  | some tr =>
    if dstat E.P O (masks O []) (spOf E.P O (masks O [])) = true then
      (if ddyn E O (masks O []) (spOf E.P O (masks O [])) (sget tr s) = true then some (sget tr s O.length) else none)
    else if dstat2 E.P O (masks O []) = true ∧ ddyn2 E O (masks O []) (sget tr s) = true then some (sget tr s O.length) else none
  | none => none

theorem adrawX_cases {E : Env} {call : Caller} {O : List Oper} {s s' : St} (h : adrawX E call O s = some s') : adraw E call O s = some s' ∨ ∃ c, Draw2 E call O c ∧ c 0 = s ∧ c O.length = s' := by
  unfold adrawX at h
  cases ht : trace E call O O s with
  | none => simp [ht] at h
  | some tr =>
    simp only [ht] at h
    split at h
    · rename_i h1
      split at h
      · rename_i h2
        left
        unfold adraw
        simp only [ht]
        rw [if_pos ⟨h1, h2⟩]; exact h
      · cases h
    · split at h
      · rename_i h1
        right
        refine ⟨sget tr s, draw2_of ht h1.1 h1.2, ?_, by simpa using h⟩
        have := (trace_at O s tr ht).1
        simp [sget, List.getD, this]
      · cases h

theorem inv_start {E : Env} {B : Nat} {O : List Oper} {c : Nat → St} {ρ : Ren} {w : World} (H : HR E B ρ (c 0).h w) (S : Sc (c 0)) : Inv E B O c ρ w [] 0 ρ (c 0).tm w where
  st := Step.refl H
  bd := fun k hk => by simp at hk
  le := Nat.zero_le _
  form := .inl rfl
  effs := fun e o _ _ => by simp
  allocs := fun j o _ _ h => by omega
  early := fun j o _ _ _ h => by simp at h
  dist := fun j k o o' _ _ _ h => by simp at h
  fr := fun t => ⟨fun j o hj => by simp at hj, fun _ => rfl⟩
  scq := fun t => by
    have := S t
    rw [← sc_scQ] at this
    exact scQ_imp _ _ (fun b hb => by simp only [live, hb, Bool.true_or]) _ this
def aexec (E : Env) : Nat → Code → St → Option (Ex × St)
  | 0, _, _ => none
  | n + 1, c, s =>
    match c with
    | .skip => some (.normal, s)
    | .label _ => some (.normal, s)
    | .ret => some (.ret, s)
    | .exit id => some (.exit id, s)
    | .goto l => some (.goto l, s)
    | .seq a b => match aexec E n a s with
      | some (.normal, s') => aexec E n b s'
      | r => r
    | .cond c a b => match opd s.tm c with
      | .bool true => aexec E n a s
      | .bool false => aexec E n b s
      | _ => none
    | .block id b => match aexec E n b s with
      | some (.exit id', s') => if id' = id then some (.normal, s') else some (.exit id', s')
      | r => r
    | .loop b => arounds (aexec E n b) n s
    | .scope b => ascope (aexec E n) b n b s
    | .region _ ops false => (aops E (acallBy E (aexec E n)) ops.toList ops.toList s).map fun s' => (.normal, s')
    | .region _ ops true => (adrawX E (acallBy E (aexec E n)) ops.toList s).map fun s' => (.normal, s')
    | _ => none

def acall (E : Env) (n : Nat) (f : FuncId) (args : List Value) (h : Heap) : Option (Value × Heap) := acallBy E (aexec E n) f args h
end Go.Tm
