/- The engine, twenty-first part: the look at a region that draws its order; the run of code. -/
import Derived.Test.YtigifaghgnbgoaaGreatEng20
namespace Go.Tm

def trace (E : Env) (call : Caller) (O : List Oper) : List Oper → St → Option (List St)
  | [], s => some [s]
  | o :: l, s => match aop1 E call O o s with
    | some s' => (trace E call O l s').map (s :: ·)
    | none => none

def nodupB : List Nat → Bool
  | [] => true
  | x :: l => !l.contains x && nodupB l

def lastTwo : List (Oper × Nat) → Option (Nat × Nat)
  | [] => none
  | [_] => none
  | [x, y] => some (x.2, y.2)
  | _ :: l => lastTwo l

def spOf (P : Program) (O : List Oper) (M : List Nat) : Option (Nat × Nat) :=
  match lastTwo (O.zipIdx.filter fun x => isE P x.1) with
  | some (y, z) => if bef M y z then none else some (y, z)
  | none => none

/- What the text alone shows. -/
def dstat (P : Program) (O : List Oper) (M : List Nat) (sp : Option (Nat × Nat)) : Bool :=
  (O.zipIdx.all fun x => (preds x.1).all fun p => decide (p < x.2)) &&
  nodupB (O.filterMap (·.dst)) &&
  (O.zipIdx.all fun x => (rdTmps O x.1).all fun t => O.zipIdx.all fun y => (match y.1.dst with
    | some d => !(d == t)
    | none => true) || (bef M y.2 x.2 || (bef M x.2 y.2 || x.2 == y.2))) &&
  ((O.zipIdx.filter fun x => isE P x.1).all fun x => (O.zipIdx.filter fun x => isE P x.1).all fun y => !decide (x.2 < y.2) || (bef M x.2 y.2 || decide (sp = some (x.2, y.2)))) &&
  (match sp with
   | none => true
   | some (y, z) => decide (y < z) &&
      ((O.zipIdx.filter fun x => isE P x.1).all fun x => x.2 == y || (x.2 == z || (bef M x.2 y && bef M x.2 z))) &&
      ((O.zipIdx.filter fun x => isR P x.1).all fun x => (bef M x.2 y && bef M x.2 z) || (bef M y x.2 && bef M z x.2)) &&
      (match O[y]?, O[z]? with
       | some oy, some oz => isE P oy && isE P oz && ((plainStore oy).isSome && (plainStore oz).isSome)
       | _, _ => false))

def sget (tr : List St) (s : St) (i : Nat) : St := tr.getD i s

def ostep (c : Nat → St) (oy oz : Oper) (y z : Nat) : Bool :=
  match plainStore oy, plainStore oz with
  | some (_, ay, vy), some (_, az, vz) =>
    match opd (c y).tm ay, opd (c z).tm az with
    | .pointer (some a), .pointer (some b) => apartW a (vcells (opd (c y).tm vy)).length b (vcells (opd (c z).tm vz)).length
    | _, _ => true
  | _, _ => false

/- What this run shows. -/
def ddyn (E : Env) (O : List Oper) (M : List Nat) (sp : Option (Nat × Nat)) (c : Nat → St) : Bool :=
  ((O.zipIdx.filter fun x => isR E.P x.1).all fun x => (O.zipIdx.filter fun x => isE E.P x.1).all fun y =>
    bef M x.2 y.2 || (bef M y.2 x.2 || (!awanted O (c x.2).tm x.1 ||
      (match aread E (c x.2).h (opd (c x.2).tm) x.1.op, aread E (c y.2).h (opd (c x.2).tm) x.1.op, aread E (c (y.2 + 1)).h (opd (c x.2).tm) x.1.op with
       | some u, some v, some w => veq v u && veq w u
       | _, _, _ => false)))) &&
  (match sp with
   | none => true
   | some (y, z) => match O[y]?, O[z]? with
     | some oy, some oz => ostep c oy oz y z
     | _, _ => false)

def adraw (E : Env) (call : Caller) (O : List Oper) (s : St) : Option St :=
  match trace E call O O s with
  | some tr =>
    if dstat E.P O (masks O []) (spOf E.P O (masks O [])) = true ∧ ddyn E O (masks O []) (spOf E.P O (masks O [])) (sget tr s) = true then some (sget tr s O.length) else none
  | none => none

theorem trace_at {E : Env} {call : Caller} {O : List Oper} : ∀ (l : List Oper) (s : St) (tr : List St), trace E call O l s = some tr →
    tr[0]? = some s ∧ ∀ i o, l[i]? = some o → ∃ s1 s2, tr[i]? = some s1 ∧ tr[i + 1]? = some s2 ∧ aop1 E call O o s1 = some s2
  | [], s, tr, h => by
    simp [trace] at h; subst h
    exact ⟨rfl, fun i o hi => by simp at hi⟩
  | o :: l, s, tr, h => by
    simp only [trace] at h
    cases ha : aop1 E call O o s with
    | none => simp [ha] at h
    | some s' =>
      simp only [ha] at h
      cases ht : trace E call O l s' with
      | none => simp [ht] at h
      | some tr' =>
        simp [ht] at h; subst h
        obtain ⟨h0, h1⟩ := trace_at l s' tr' ht
        refine ⟨rfl, fun i o' hi => ?_⟩
        cases i with
        | zero =>
          simp at hi; subst hi
          exact ⟨s, s', rfl, by simpa using h0, ha⟩
        | succ i =>
          simp at hi
          obtain ⟨s1, s2, g1, g2, g3⟩ := h1 i o' hi
          exact ⟨s1, s2, by simpa using g1, by simpa using g2, g3⟩

theorem nodupB_at : ∀ (O : List Oper), nodupB (O.filterMap (·.dst)) = true → ∀ (i j : Nat) (o o' : Oper) (d : Nat), O[i]? = some o → O[j]? = some o' → o.dst = some d → o'.dst = some d → i = j
  | [], _, i, j, o, o', d, hi, _, _, _ => by simp at hi
  | u :: O, h, i, j, o, o', d, hi, hj, hd, hd' => by
    have htail : nodupB (O.filterMap (·.dst)) = true := by
      cases hu : u.dst with
      | none => simpa [List.filterMap_cons, hu] using h
      | some e => simp only [List.filterMap_cons, hu, nodupB, Bool.and_eq_true] at h; exact h.2
    have hno : ∀ (k : Nat) (ok : Oper), O[k]? = some ok → u.dst = some d → ok.dst = some d → False := by
      intro k ok hk hu hok
      simp only [List.filterMap_cons, hu, nodupB, Bool.and_eq_true, Bool.not_eq_true'] at h
      have : d ∈ O.filterMap (·.dst) := List.mem_filterMap.2 ⟨ok, List.mem_of_getElem? hk, hok⟩
      have h2 := h.1
      rw [List.contains_iff_mem.2 this] at h2
      cases h2
    cases i with
    | zero =>
      simp at hi; subst hi
      cases j with
      | zero => rfl
      | succ j => simp at hj; exact (hno j o' hj hd hd').elim
    | succ i =>
      simp at hi
      cases j with
      | zero => simp at hj; subst hj; exact (hno i o hi hd' hd).elim
      | succ j =>
        simp at hj
        rw [nodupB_at O htail i j o o' d hi hj hd hd']

theorem mem_ix {O : List Oper} {i : Nat} {o : Oper} (h : O[i]? = some o) : (o, i) ∈ O.zipIdx := by
  rw [List.mk_mem_zipIdx_iff_getElem?]; exact h

theorem draw_of {E : Env} {call : Caller} {O : List Oper} {s : St} {tr : List St} {sp : Option (Nat × Nat)} (ht : trace E call O O s = some tr) (h1 : dstat E.P O (masks O []) sp = true) (h2 : ddyn E O (masks O []) sp (sget tr s) = true) :
    Draw E call O sp (sget tr s) := by
  obtain ⟨t0, t1⟩ := trace_at O s tr ht
  simp only [dstat, Bool.and_eq_true, List.all_eq_true, List.mem_filter] at h1
  obtain ⟨⟨⟨⟨a1, a2⟩, a3⟩, a4⟩, a5⟩ := h1
  simp only [ddyn, Bool.and_eq_true, List.all_eq_true, List.mem_filter] at h2
  obtain ⟨b1, b2⟩ := h2
  refine ⟨?_, ?_, nodupB_at O a2, ?_, ?_, ?_, ?_, ?_, ?_⟩
  · intro i o ho
    obtain ⟨s1, s2, g1, g2, g3⟩ := t1 i o ho
    have e1 : sget tr s i = s1 := by simp [sget, List.getD, g1]
    have e2 : sget tr s (i + 1) = s2 := by simp [sget, List.getD, g2]
    rw [e1, e2]; exact g3
  · intro i o ho p hp
    have := a1 _ (mem_ix ho) p hp
    simpa using this
  · intro i o t j o' ho ht' hj hd
    have := a3 _ (mem_ix ho) t ht' _ (mem_ix hj)
    simp only [hd, Bool.or_eq_true, Bool.not_eq_true', beq_eq_false_iff_ne, ne_eq, not_true_eq_false, false_or, beq_iff_eq] at this
    exact this
  · intro a b o o' hab ha hb hE hE'
    have := a4 _ ⟨mem_ix ha, hE⟩ _ ⟨mem_ix hb, hE'⟩
    simp only [Bool.or_eq_true, Bool.not_eq_true', decide_eq_false_iff_not, decide_eq_true_eq] at this
    rcases this with h | h
    · exact absurd hab h
    · exact h
  · intro i e o o' ho he hR hE
    have := b1 _ ⟨mem_ix ho, hR⟩ _ ⟨mem_ix he, hE⟩
    simp only [Bool.or_eq_true, Bool.not_eq_true'] at this
    rcases this with h | h | h | h
    · exact .inl h
    · exact .inr (.inl h)
    · right; right; intro hw; rw [h] at hw; cases hw
    · right; right; intro _
      split at h
      · rename_i u v w g1 g2 g3
        simp only [Bool.and_eq_true] at h
        rw [g1, g2, g3, veq_eq _ _ h.1, veq_eq _ _ h.2]
        exact ⟨rfl, rfl⟩
      · cases h
  · intro y z hsp
    subst hsp
    simp only [Bool.and_eq_true, List.all_eq_true, decide_eq_true_eq, List.mem_filter] at a5
    obtain ⟨⟨⟨c1, _⟩, _⟩, c4⟩ := a5
    refine ⟨c1, ?_⟩
    simp only at b2
    split at c4
    · rename_i oy oz gy gz
      simp only [gy, gz] at b2
      simp only [Bool.and_eq_true] at c4
      obtain ⟨⟨c5, c6⟩, c7, c8⟩ := c4
      refine ⟨oy, oz, gy, gz, c5, c6, ?_⟩
      obtain ⟨⟨ty, ay, vy⟩, e1⟩ := Option.isSome_iff_exists.1 c7
      obtain ⟨⟨tz, az, vz⟩, e2⟩ := Option.isSome_iff_exists.1 c8
      refine ⟨ty, ay, vy, tz, az, vz, e1, e2, ?_⟩
      intro a b ha hb
      simp only [ostep, e1, e2, ha, hb] at b2
      exact b2
    · cases c4
  · intro y z hsp e o ho hE
    subst hsp
    simp only [Bool.and_eq_true, List.all_eq_true, decide_eq_true_eq, List.mem_filter] at a5
    have := a5.1.1.2 _ ⟨mem_ix ho, hE⟩
    simp only [Bool.or_eq_true, Bool.and_eq_true, beq_iff_eq] at this
    exact this
  · intro y z hsp i o ho hR
    subst hsp
    simp only [Bool.and_eq_true, List.all_eq_true, decide_eq_true_eq, List.mem_filter] at a5
    have := a5.1.2 _ ⟨mem_ix ho, hR⟩
    simp only [Bool.or_eq_true, Bool.and_eq_true] at this
    exact this

theorem closed_cons {O : List Oper} {D : List Nat} (hD : Closed O D) {i : Nat} (hr : ∀ o, O[i]? = some o → ∀ p, p ∈ preds o → p ∈ D) : Closed O (i :: D) := by
  intro j o hj ho p hp
  simp only [List.mem_cons] at hj
  rcases hj with rfl | hj
  · exact List.mem_cons_of_mem _ (hr o ho p hp)
  · exact List.mem_cons_of_mem _ (hD j o hj ho p hp)

theorem sched_run {E : Env} {call : Caller} {ops : Array Oper} {sp : Option (Nat × Nat)} {c : Nat → St} (W : Draw E call ops.toList sp c) : ∀ (r D : List Nat) (tm : Tr Value) (h : Heap), Sched ops.toList D r → Closed ops.toList D → Fr ops.toList c D tm → HI E ops.toList sp c D h →
    ∃ s'', aopsI E call ops r ⟨tm, h⟩ = some s'' ∧ (∀ t, fget s''.tm t = fget (c ops.toList.length).tm t) ∧ Same s''.h (c ops.toList.length).h
  | [], D, tm, h, hS, hD, F, hI => by
    refine ⟨_, rfl, fun t => ?_, ?_⟩
    · have C := W.canon ops.toList.length (Nat.le_refl _)
      by_cases hx : ∃ (j : Nat) (o' : Oper), ops.toList[j]? = some o' ∧ o'.dst = some t
      · obtain ⟨j, o', hj, hd⟩ := hx
        have hjl : j < ops.toList.length := (List.getElem?_eq_some_iff.1 hj).1
        rw [(F t).1 j o' (hS j hjl) hj hd, (C t).1 j o' (by simpa using hjl) hj hd]
      · rw [(F t).2 (fun j o' _ hj hd => hx ⟨j, o', hj, hd⟩), (C t).2 (fun j o' _ hj hd => hx ⟨j, o', hj, hd⟩)]
    · have hall : ∀ e o, ops.toList[e]? = some o → isE E.P o = true → e ∈ D := fun e o he _ => hS e (List.getElem?_eq_some_iff.1 he).1
      unfold HI at hI
      cases hsp : sp with
      | none => rw [hsp] at hI; rw [hI.2 hall]; exact Same.refl _
      | some yz =>
        obtain ⟨y, z⟩ := yz
        rw [hsp] at hI
        obtain ⟨_, oy, oz, hy, hz, _⟩ := W.sp1 y z hsp
        exact hI.2.2 (hS z (List.getElem?_eq_some_iff.1 hz).1) (hS y (List.getElem?_eq_some_iff.1 hy).1)
  | i :: r, D, tm, h, hS, hD, F, hI => by
    obtain ⟨hi, hni, hr, hS'⟩ := hS
    obtain ⟨o, tm', h', ho, ha, F', hI'⟩ := W.step hD F hI hi hni hr
    obtain ⟨s'', g1, g2⟩ := sched_run W r (i :: D) tm' h' hS' (closed_cons hD hr) F' hI'
    refine ⟨s'', ?_, g2⟩
    simp only [aopsI]
    rw [show ops[i]? = some o by rw [← Array.getElem?_toList]; exact ho]
    simp only [ha]; exact g1

theorem draw_sched {E : Env} {call : Caller} {ops : Array Oper} {s s' : St} (h : adraw E call ops.toList s = some s') (t : Nat) :
    ∃ s'', aopsI E call ops (Region.linearise .any ops t) s = some s'' ∧ (∀ t, fget s''.tm t = fget s'.tm t) ∧ Same s''.h s'.h := by
  unfold adraw at h
  split at h
  · rename_i tr ht
    split at h
    · rename_i hc
      injection h with h; subst h
      have W := draw_of ht hc.1 hc.2
      have e0 : sget tr s 0 = s := by
        have := (trace_at ops.toList s tr ht).1
        simp [sget, List.getD, this]
      refine sched_run W _ [] s.tm s.h (linearise_sched W.down t) (fun i o hi => by simp at hi) ?_ ?_
      · intro t
        exact ⟨fun j o hj => by simp at hj, fun _ => by rw [e0]⟩
      · have hB : HB E ops.toList (sget tr s) [] s.h := by
          constructor
          · intro e o he hE _ hf
            have hl : e < ops.toList.length := (List.getElem?_eq_some_iff.1 he).1
            have := W.flat' (a := 0) (b := e) (Nat.zero_le _) (by omega) (by
              intro e' o' _ h2 h3
              cases h4 : isE E.P o' with
              | false => rfl
              | true => have := hf e' o' h2 h3 h4; simp at this)
            rw [this, e0]
          · intro hall
            have := W.flat' (a := 0) (b := ops.toList.length) (Nat.zero_le _) (Nat.le_refl _) (by
              intro e' o' _ h2 h3
              cases h4 : isE E.P o' with
              | false => rfl
              | true => have := hall e' o' h3 h4; simp at this)
            rw [this, e0]
        unfold HI
        cases spOf E.P ops.toList (masks ops.toList []) with
        | none => exact hB
        | some yz => exact ⟨fun _ => hB, fun hh => by simp at hh, fun hh => by simp at hh⟩
    · cases h
  · cases h

end Go.Tm
