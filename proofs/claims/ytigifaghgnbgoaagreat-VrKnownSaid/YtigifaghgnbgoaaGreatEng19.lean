/- The engine, nineteenth part: a region that draws its order: whatever order, one outcome. -/
import Derived.Test.YtigifaghgnbgoaaGreatEng18
namespace Go.Tm

def isE (P : Program) (o : Oper) : Bool :=
  match kindOf P o.op with
  | .eff => true
  | .alloc => true
  | _ => false
def isR (P : Program) (o : Oper) : Bool :=
  match kindOf P o.op with
  | .read => true
  | _ => false

def tmpOf : Operand → Option Nat
  | .tmp t => some t
  | _ => none

def rdTmps (O : List Oper) (o : Oper) : List Nat :=
  (o.op.operands.toList.filterMap tmpOf) ++
    (match o.guard with
     | some (j, _) => match (O[j]?).bind (·.dst) with
       | some d => [d]
       | none => []
     | none => [])

/-- A store without a guard. -/
def plainStore (o : Oper) : Option (TypeId × Operand × Operand) :=
  match o.guard, o.op with
  | none, .store t a v => some (t, a, v)
  | _, _ => none

structure Draw (E : Env) (call : Caller) (O : List Oper) (sp : Option (Nat × Nat)) (c : Nat → St) : Prop where
  run : ∀ (i : Nat) (o : Oper), O[i]? = some o → aop1 E call O o (c i) = some (c (i + 1))
  down : Down O
  dsts : ∀ (i j : Nat) (o o' : Oper) (d : Nat), O[i]? = some o → O[j]? = some o' → o.dst = some d → o'.dst = some d → i = j
  rds : ∀ (i : Nat) (o : Oper) (t j : Nat) (o' : Oper), O[i]? = some o → t ∈ rdTmps O o → O[j]? = some o' → o'.dst = some t → bef (masks O []) j i = true ∨ bef (masks O []) i j = true ∨ i = j
  effs : ∀ (a b : Nat) (o o' : Oper), a < b → O[a]? = some o → O[b]? = some o' → isE E.P o = true → isE E.P o' = true → bef (masks O []) a b = true ∨ sp = some (a, b)
  stable : ∀ (i e : Nat) (o o' : Oper), O[i]? = some o → O[e]? = some o' → isR E.P o = true → isE E.P o' = true → bef (masks O []) i e = true ∨ bef (masks O []) e i = true ∨
    (awanted O (c i).tm o = true → aread E (c e).h (opd (c i).tm) o.op = aread E (c i).h (opd (c i).tm) o.op ∧ aread E (c (e + 1)).h (opd (c i).tm) o.op = aread E (c i).h (opd (c i).tm) o.op)
  sp1 : ∀ (y z : Nat), sp = some (y, z) → y < z ∧ ∃ (oy oz : Oper), O[y]? = some oy ∧ O[z]? = some oz ∧ isE E.P oy = true ∧ isE E.P oz = true ∧ ∃ ty ay vy tz az vz, plainStore oy = some (ty, ay, vy) ∧ plainStore oz = some (tz, az, vz) ∧
    ∀ a b, opd (c y).tm ay = .pointer (some a) → opd (c z).tm az = .pointer (some b) → apartW a (vcells (opd (c y).tm vy)).length b (vcells (opd (c z).tm vz)).length = true
  sp2 : ∀ (y z : Nat), sp = some (y, z) → ∀ (e : Nat) (o : Oper), O[e]? = some o → isE E.P o = true → e = y ∨ e = z ∨ (bef (masks O []) e y = true ∧ bef (masks O []) e z = true)
  sp3 : ∀ (y z : Nat), sp = some (y, z) → ∀ (i : Nat) (o : Oper), O[i]? = some o → isR E.P o = true → (bef (masks O []) i y = true ∧ bef (masks O []) i z = true) ∨ (bef (masks O []) y i = true ∧ bef (masks O []) z i = true)

def Fr (O : List Oper) (c : Nat → St) (D : List Nat) (tm : Tr Value) : Prop :=
  ∀ t, (∀ j o, j ∈ D → O[j]? = some o → o.dst = some t → fget tm t = fget (c (j + 1)).tm t) ∧ ((∀ j o, j ∈ D → O[j]? = some o → o.dst ≠ some t) → fget tm t = fget (c 0).tm t)

section
variable {E : Env} {call : Caller} {O : List Oper} {sp : Option (Nat × Nat)} {c : Nat → St}

theorem aop1_tm {o : Oper} {s s' : St} (h : aop1 E call O o s = some s') : ∃ v, s'.tm = aput s.tm o.dst v ∧ ((awanted O s.tm o = true ∧ aop E call o.op s = some (v, s'.h)) ∨ (awanted O s.tm o = false ∧ v = undef ∧ s'.h = s.h)) := by
  unfold aop1 at h
  split at h
  · rename_i hw
    split at h
    · rename_i v h' ha
      injection h with h; subst h
      exact ⟨v, rfl, .inl ⟨hw, ha⟩⟩
    · cases h
  · rename_i hw
    injection h with h; subst h
    exact ⟨undef, rfl, .inr ⟨by simpa using hw, rfl, rfl⟩⟩

theorem fget_aput (tm : Tr Value) (d : Option Nat) (v : Value) (t : Nat) : fget (aput tm d v) t = if d = some t then v else fget tm t := by
  cases d with
  | none => simp [aput]
  | some d => simp only [aput, fget_set]; by_cases e : d = t <;> simp [e]

theorem Draw.canon (W : Draw E call O sp c) : ∀ i, i ≤ O.length → Fr O c (List.range i) (c i).tm
  | 0, _ => fun t => ⟨fun j o hj => by simp at hj, fun _ => rfl⟩
  | i + 1, hi => by
    have ih := W.canon i (by omega)
    have ho : O[i]? = some O[i] := List.getElem?_eq_getElem (by omega)
    obtain ⟨v, hv, _⟩ := aop1_tm (W.run i _ ho)
    intro t
    rw [hv]
    constructor
    · intro j o hj hjo hd
      rw [fget_aput]
      by_cases e : j = i
      · subst e
        rw [ho] at hjo; injection hjo with hjo; subst hjo
        rw [hv, fget_aput]
      · have hji : j < i := by simp at hj; omega
        have : ¬ (O[i].dst = some t) := fun h => e (W.dsts j i o _ t hjo ho hd h)
        rw [if_neg this]
        exact (ih t).1 j o (by simpa using hji) hjo hd
    · intro hn
      rw [fget_aput, if_neg (hn i _ (by simp) ho)]
      exact (ih t).2 fun j o hj hjo => hn j o (by simp at hj ⊢; omega) hjo

theorem Draw.agree (W : Draw E call O sp c) {D : List Nat} (hD : Closed O D) {tm : Tr Value} (F : Fr O c D tm) {i : Nat} {o : Oper} (ho : O[i]? = some o) (hi : i ∉ D) (hr : ∀ o, O[i]? = some o → ∀ p, p ∈ preds o → p ∈ D) :
    ∀ t, t ∈ rdTmps O o → fget tm t = fget (c i).tm t := by
  intro t ht
  have hlen : i < O.length := (List.getElem?_eq_some_iff.1 ho).1
  have C := W.canon i (by omega)
  by_cases hx : ∃ (j : Nat) (o' : Oper), O[j]? = some o' ∧ o'.dst = some t
  · obtain ⟨j, o', hj, hd⟩ := hx
    rcases W.rds i o t j o' ho ht hj hd with h | h | h
    · have h1 := bef_ready hD hr h
      have h2 := bef_lt W.down i j h
      rw [(F t).1 j o' h1 hj hd, (C t).1 j o' (by simpa using h2) hj hd]
    · have h1 : j ∉ D := fun hjD => hi (bef_done hD j i hjD h)
      have h2 := bef_lt W.down j i h
      rw [(F t).2 (fun k ok hk hok hdk => by have := W.dsts j k o' ok t hj hok hd hdk; subst this; exact h1 hk),
        (C t).2 (fun k ok hk hok hdk => by have := W.dsts j k o' ok t hj hok hd hdk; subst this; simp at hk; omega)]
    · subst h
      rw [(F t).2 (fun k ok hk hok hdk => by have := W.dsts i k o' ok t hj hok hd hdk; subst this; exact hi hk),
        (C t).2 (fun k ok hk hok hdk => by have := W.dsts i k o' ok t hj hok hd hdk; subst this; simp at hk)]
  · have hn : ∀ (D' : List Nat) (j : Nat) (o' : Oper), j ∈ D' → O[j]? = some o' → o'.dst ≠ some t := fun _ j o' _ hj hd => hx ⟨j, o', hj, hd⟩
    rw [(F t).2 (hn D), (C t).2 (hn _)]

theorem opd_agree {o : Oper} {tm tm' : Tr Value} (h : ∀ t, t ∈ rdTmps O o → fget tm t = fget tm' t) : ∀ x, x ∈ o.op.operands → opd tm x = opd tm' x := by
  intro x hx
  cases x with
  | tmp t =>
    refine h t ?_
    unfold rdTmps
    refine List.mem_append_left _ ?_
    rw [List.mem_filterMap]
    exact ⟨.tmp t, by simpa using hx, rfl⟩
  | _ => rfl

theorem awanted_agree {o : Oper} {tm tm' : Tr Value} (h : ∀ t, t ∈ rdTmps O o → fget tm t = fget tm' t) : awanted O tm o = awanted O tm' o := by
  unfold awanted
  cases hg : o.guard with
  | none => rfl
  | some g =>
    obtain ⟨j, want⟩ := g
    simp only
    cases hd : (O[j]?).bind (·.dst) with
    | none => rfl
    | some d =>
      simp only
      rw [h d (by unfold rdTmps; rw [hg]; simp only [hd]; simp)]

/-- What is neither made nor written leaves the heap. -/
theorem quiet_h {o : Oper} {s s' : St} (hE : isE E.P o = false) (h : aop1 E call O o s = some s') : s'.h = s.h := by
  obtain ⟨v, _, h | h⟩ := aop1_tm h
  · have ha := h.2
    unfold aop at ha
    unfold isE at hE
    cases hk : kindOf E.P o.op <;> simp only [hk] at ha hE
    · cases hp : apure E.P (opd s.tm) o.op <;> simp [hp] at ha; exact ha.2.symm
    · cases hp : aread E s.h (opd s.tm) o.op <;> simp [hp] at ha; exact ha.2.symm
    · cases hE
    · cases hE
  · exact h.2.2

theorem Draw.flat (W : Draw E call O sp c) : ∀ (k a : Nat), a + k ≤ O.length → (∀ e o, a ≤ e → e < a + k → O[e]? = some o → isE E.P o = false) → (c (a + k)).h = (c a).h
  | 0, a, _, _ => rfl
  | k + 1, a, hl, hn => by
    have ih := W.flat k a (by omega) fun e o h1 h2 => hn e o h1 (by omega)
    have ho : O[a + k]? = some O[a + k] := List.getElem?_eq_getElem (by omega)
    rw [← ih]
    exact quiet_h (hn (a + k) _ (by omega) (by omega) ho) (W.run (a + k) _ ho)

theorem Draw.flat' (W : Draw E call O sp c) {a b : Nat} (hab : a ≤ b) (hb : b ≤ O.length) (hn : ∀ e o, a ≤ e → e < b → O[e]? = some o → isE E.P o = false) : (c b).h = (c a).h := by
  obtain ⟨k, rfl⟩ : ∃ k, b = a + k := ⟨b - a, by omega⟩
  exact W.flat k a hb hn

def HB (E : Env) (O : List Oper) (c : Nat → St) (D : List Nat) (h : Heap) : Prop :=
  (∀ e o, O[e]? = some o → isE E.P o = true → e ∉ D → (∀ e' o', e' < e → O[e']? = some o' → isE E.P o' = true → e' ∈ D) → h = (c e).h) ∧
  ((∀ e o, O[e]? = some o → isE E.P o = true → e ∈ D) → h = (c O.length).h)

theorem notE_of_R {P : Program} {o : Oper} (h : isR P o = true) : isE P o = false := by
  unfold isR at h; unfold isE
  cases hk : kindOf P o.op <;> simp only [hk] at h ⊢ <;> cases h

theorem Draw.span (W : Draw E call O sp c) {D : List Nat} (hD : Closed O D) {i : Nat} {o : Oper} (ho : O[i]? = some o) (hR : isR E.P o = true) (hi : i ∉ D) (hw : awanted O (c i).tm o = true) :
    ∀ k, i + k ≤ O.length → (∀ e o', i ≤ e → e < i + k → O[e]? = some o' → isE E.P o' = true → e ∈ D) → aread E (c (i + k)).h (opd (c i).tm) o.op = aread E (c i).h (opd (c i).tm) o.op
  | 0, _, _ => rfl
  | k + 1, hl, hn => by
    have ih := W.span hD ho hR hi hw k (by omega) fun e o' h1 h2 => hn e o' h1 (by omega)
    have hk : O[i + k]? = some O[i + k] := List.getElem?_eq_getElem (by omega)
    cases hE : isE E.P O[i + k] with
    | false =>
      have := quiet_h hE (W.run (i + k) _ hk)
      rw [show i + (k + 1) = i + k + 1 by omega, this]; exact ih
    | true =>
      have hd := hn (i + k) _ (by omega) (by omega) hk hE
      rcases W.stable i (i + k) o _ ho hk hR hE with h | h | h
      · exact absurd (bef_done hD _ _ hd h) hi
      · have := bef_lt W.down _ _ h; omega
      · rw [show i + (k + 1) = i + k + 1 by omega]; exact (h hw).2

theorem Draw.read_at (W : Draw E call O sp c) {D : List Nat} (hD : Closed O D) {h : Heap} (hb : HB E O c D h) {i : Nat} {o : Oper} (ho : O[i]? = some o) (hR : isR E.P o = true) (hi : i ∉ D)
    (hr : ∀ o, O[i]? = some o → ∀ p, p ∈ preds o → p ∈ D) (hw : awanted O (c i).tm o = true) : aread E h (opd (c i).tm) o.op = aread E (c i).h (opd (c i).tm) o.op := by
  have hlen : i < O.length := (List.getElem?_eq_some_iff.1 ho).1
  by_cases hx : ∃ (e : Nat) (o' : Oper), O[e]? = some o' ∧ isE E.P o' = true ∧ e ∉ D
  · obtain ⟨e0, he0⟩ := hx
    obtain ⟨e, _, ⟨o', he, hE, heD⟩, hmin⟩ := least_not (fun e => ∃ o', O[e]? = some o' ∧ isE E.P o' = true ∧ e ∉ D) e0 he0
    have hfirst : ∀ e' o', e' < e → O[e']? = some o' → isE E.P o' = true → e' ∈ D := fun e' o' hlt h1 h2 => Classical.byContradiction fun h3 => hmin e' hlt ⟨o', h1, h2, h3⟩
    rw [hb.1 e o' he hE heD hfirst]
    rcases W.stable i e o o' ho he hR hE with h | h | h
    · have hlt := bef_lt W.down _ _ h
      have hel : e < O.length := (List.getElem?_eq_some_iff.1 he).1
      have := W.span hD ho hR hi hw (e - i) (by omega) fun e' o'' h1 h2 h3 h4 => hfirst e' o'' (by omega) h3 h4
      rwa [show i + (e - i) = e by omega] at this
    · exact absurd (bef_ready hD hr h) heD
    · exact (h hw).1
  · have hall : ∀ e o', O[e]? = some o' → isE E.P o' = true → e ∈ D := fun e o' h1 h2 => Classical.byContradiction fun h3 => hx ⟨e, o', h1, h2, h3⟩
    rw [hb.2 hall]
    have := W.span hD ho hR hi hw (O.length - i) (by omega) fun e' o'' h1 h2 h3 h4 => hall e' o'' h3 h4
    rwa [show i + (O.length - i) = O.length by omega] at this

theorem HB.quiet {D : List Nat} {h : Heap} (hb : HB E O c D h) {i : Nat} {o : Oper} (ho : O[i]? = some o) (hE : isE E.P o = false) : HB E O c (i :: D) h := by
  have hne : ∀ e o', O[e]? = some o' → isE E.P o' = true → e ≠ i := by
    intro e o' h1 h2 h3
    subst h3; rw [ho] at h1; injection h1 with h1; subst h1; rw [hE] at h2; cases h2
  constructor
  · intro e o' he hE' heD hf
    refine hb.1 e o' he hE' (fun hh => heD (List.mem_cons_of_mem _ hh)) fun e' o'' hlt h1 h2 => ?_
    have := hf e' o'' hlt h1 h2
    simp only [List.mem_cons] at this
    rcases this with h3 | h3
    · exact absurd h3 (hne e' o'' h1 h2)
    · exact h3
  · intro hall
    refine hb.2 fun e o' h1 h2 => ?_
    have := hall e o' h1 h2
    simp only [List.mem_cons] at this
    rcases this with h3 | h3
    · exact absurd h3 (hne e o' h1 h2)
    · exact h3

/-- A step that makes or writes, where all before it are done and none behind it. -/
theorem Draw.eff_step (W : Draw E call O sp c) {D : List Nat} {h : Heap} (hb : HB E O c D h) {i : Nat} {o : Oper} (ho : O[i]? = some o) (hE : isE E.P o = true) (hi : i ∉ D)
    (hlo : ∀ e o', e < i → O[e]? = some o' → isE E.P o' = true → e ∈ D) (hhi : ∀ e o', i < e → O[e]? = some o' → isE E.P o' = true → e ∉ D) : h = (c i).h ∧ HB E O c (i :: D) (c (i + 1)).h := by
  have hlen : i < O.length := (List.getElem?_eq_some_iff.1 ho).1
  refine ⟨hb.1 i o ho hE hi hlo, ?_, ?_⟩
  · intro e o' he hE' heD hf
    have hel : e < O.length := (List.getElem?_eq_some_iff.1 he).1
    simp only [List.mem_cons, not_or] at heD
    have hie : i < e := by
      rcases Nat.lt_trichotomy e i with h1 | h1 | h1
      · exact absurd (hlo e o' h1 he hE') heD.2
      · exact absurd h1 heD.1
      · exact h1
    refine (W.flat' (by omega) (by omega) ?_).symm
    intro e' o'' h1 h2 h3
    cases h4 : isE E.P o'' with
    | false => rfl
    | true =>
      have := hf e' o'' h2 h3 h4
      simp only [List.mem_cons] at this
      rcases this with h5 | h5
      · omega
      · exact absurd h5 (hhi e' o'' (by omega) h3 h4)
  · intro hall
    refine (W.flat' (by omega) (Nat.le_refl _) ?_).symm
    intro e' o'' h1 h2 h3
    cases h4 : isE E.P o'' with
    | false => rfl
    | true =>
      have := hall e' o'' h3 h4
      simp only [List.mem_cons] at this
      rcases this with h5 | h5
      · omega
      · exact absurd h5 (hhi e' o'' (by omega) h3 h4)
end
end Go.Tm
