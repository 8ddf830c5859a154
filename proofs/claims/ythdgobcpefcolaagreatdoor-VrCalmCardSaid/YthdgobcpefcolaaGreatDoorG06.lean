/- The engine, twenty-third part: regions that draw their order and make new memory in any order. (Tools.) -/
/- Merged by a program of ours: Eng20 Eng21 Eng16 Eng23. -/
import Derived.Test.YthdgobcpefcolaaGreatDoorG05
import Derived.Test.YthdgobcpefcolaaGreatDoorG04
set_option maxRecDepth 10000
set_option linter.all false
set_option linter.unusedSimpArgs false
set_option linter.unusedVariables false
/- The engine, twentieth part: every schedule of a region comes to what the text's order comes to. -/
namespace Go.Tm
section
variable {E : Env} {call : Caller} {O : List Oper} {sp : Option (Nat × Nat)} {c : Nat → St}

/-- The heap when D is done. -/
def HI (E : Env) (O : List Oper) (sp : Option (Nat × Nat)) (c : Nat → St) (D : List Nat) (h : Heap) : Prop :=
  match sp with
  | none => HB E O c D h
  | some (y, z) => (z ∉ D → HB E O c D h) ∧
      (z ∈ D → y ∉ D → ∀ oz tz az vz a, O[z]? = some oz → plainStore oz = some (tz, az, vz) → opd (c z).tm az = .pointer (some a) → awrite (c y).h a (vcells (opd (c z).tm vz)) = some h) ∧
      (z ∈ D → y ∈ D → Same h (c O.length).h)

theorem aop_store {t : TypeId} {a v : Operand} {s : St} {r : Value × Heap} (h : aop E call (.store t a v) s = some r) : ∃ ad, opd s.tm a = .pointer (some ad) ∧ asz E.P t = some (vcells (opd s.tm v)).length ∧ awrite s.h ad (vcells (opd s.tm v)) = some r.2 ∧ r.1 = undef := by
  simp only [aop, kindOf, aeff] at h
  cases hs : astore E s.h t (opd s.tm a) (opd s.tm v) with
  | none => simp [hs] at h
  | some h' =>
    simp [hs] at h; subst h
    unfold astore at hs
    split at hs
    · rename_i ad ha
      split at hs
      · rename_i hz; exact ⟨ad, ha, hz, hs, rfl⟩
      · cases hs
    · cases hs

theorem store_aop {t : TypeId} {a v : Operand} {s : St} {ad : Addr} {h' : Heap} (h1 : opd s.tm a = .pointer (some ad)) (h2 : asz E.P t = some (vcells (opd s.tm v)).length) (h3 : awrite s.h ad (vcells (opd s.tm v)) = some h') :
    aop E call (.store t a v) s = some (undef, h') := by
  simp only [aop, kindOf, aeff, astore, h1, h2, if_true, h3, Option.map_some]

theorem plain_store {o : Oper} {t : TypeId} {a v : Operand} (h : plainStore o = some (t, a, v)) : o.guard = none ∧ o.op = .store t a v := by
  unfold plainStore at h
  split at h
  · rename_i hg ho
    simp only [Option.some.injEq, Prod.mk.injEq] at h
    obtain ⟨rfl, rfl, rfl⟩ := h
    exact ⟨hg, ho⟩
  · cases h

theorem same_acells {h h' : Heap} (s : Same h h') (a : Addr) (n : Nat) : acells E h a n = acells E h' a n := by
  simp only [acells, s.2]

theorem same_aread {h h' : Heap} (s : Same h h') {ev : Operand → Value} {op : Op} : aread E h ev op = aread E h' ev op := by
  cases op with
  | load t x => simp only [aread, aload, same_acells s]
  | lookup t x i ok => simp only [aread, alookup, ament, s.2]
  | convert a b x => simp only [aread, same_acells s]
  | _ => rfl

theorem Fr.step {D : List Nat} {tm : Tr Value} (W : Draw E call O sp c) (F : Fr O c D tm) {i : Nat} {o : Oper} (ho : O[i]? = some o) (hi : i ∉ D) {v : Value} (hv : (c (i + 1)).tm = aput (c i).tm o.dst v) : Fr O c (i :: D) (aput tm o.dst v) := by
  intro t
  constructor
  · intro j oj hj hoj hd
    rw [fget_aput]
    by_cases e : j = i
    · subst e
      rw [ho] at hoj; injection hoj with hoj; subst hoj
      rw [hv, fget_aput, if_pos hd, if_pos hd]
    · have hjD : j ∈ D := by simp only [List.mem_cons] at hj; exact hj.resolve_left e
      rw [if_neg (fun h => e (W.dsts j i oj o t hoj ho hd h))]
      exact (F t).1 j oj hjD hoj hd
  · intro hn
    rw [fget_aput, if_neg (hn i o (by simp) ho)]
    exact (F t).2 fun j oj hj hoj => hn j oj (List.mem_cons_of_mem _ hj) hoj

/-- An operation that neither makes nor writes, at another heap. -/
theorem quiet_op {o : Oper} (hE : isE E.P o = false) {tm : Tr Value} {h : Heap} {s : St} {v : Value} (hag : ∀ x, x ∈ o.op.operands → opd tm x = opd s.tm x) (ha : aop E call o.op s = some (v, s.h)) (hr : isR E.P o = true → aread E h (opd s.tm) o.op = aread E s.h (opd s.tm) o.op) :
    aop E call o.op ⟨tm, h⟩ = some (v, h) := by
  unfold aop at ha ⊢
  unfold isE at hE
  unfold isR at hr
  cases hk : kindOf E.P o.op <;> simp only [hk] at ha hE hr ⊢
  · cases hp : apure E.P (opd s.tm) o.op with
    | none => simp [hp] at ha
    | some u => simp [hp] at ha; rw [apure_congr hag, hp]; simp [ha]
  · cases hp : aread E s.h (opd s.tm) o.op with
    | none => simp [hp] at ha
    | some u => simp [hp] at ha; rw [aread_congr hag, hr trivial, hp]; simp [ha]
  · cases hE
  · cases hE

/-- One step of a schedule. -/
theorem Draw.step (W : Draw E call O sp c) {D : List Nat} (hD : Closed O D) {tm : Tr Value} {h : Heap} (F : Fr O c D tm) (hI : HI E O sp c D h) {i : Nat} (hlt : i < O.length) (hi : i ∉ D)
    (hr : ∀ o, O[i]? = some o → ∀ p, p ∈ preds o → p ∈ D) : ∃ o tm' h', O[i]? = some o ∧ aop1 E call O o ⟨tm, h⟩ = some ⟨tm', h'⟩ ∧ Fr O c (i :: D) tm' ∧ HI E O sp c (i :: D) h' := by
  have ho : O[i]? = some O[i] := List.getElem?_eq_getElem hlt
  generalize O[i] = o at ho
  have hag := W.agree hD F ho hi hr
  have hopd := opd_agree hag
  have hwa := awanted_agree hag
  obtain ⟨v, hv, hcase⟩ := aop1_tm (W.run i o ho)
  have F' := F.step W ho hi hv
  refine ⟨o, aput tm o.dst v, ?_⟩
  cases hE : isE E.P o with
  | false =>
    have hq := quiet_h hE (W.run i o ho)
    refine ⟨h, ho, ?_, F', ?_⟩
    · rcases hcase with ⟨hw, ha⟩ | ⟨hw, rfl, _⟩
      · rw [hq] at ha
        have hread : isR E.P o = true → aread E h (opd (c i).tm) o.op = aread E (c i).h (opd (c i).tm) o.op := by
          intro hR
          cases hsp : sp with
          | none =>
            unfold HI at hI; rw [hsp] at hI
            exact W.read_at hD hI ho hR hi hr hw
          | some yz =>
            obtain ⟨y, z⟩ := yz
            have hI' := hI; unfold HI at hI'; rw [hsp] at hI'
            by_cases hz : z ∈ D
            · rcases W.sp3 y z hsp i o ho hR with ⟨_, h2⟩ | ⟨h1, h2⟩
              · exact absurd (bef_done hD _ _ hz h2) hi
              · have hy := bef_ready hD hr h1
                have hsame := hI'.2.2 hz hy
                rw [same_aread hsame]
                have hzi := bef_lt W.down _ _ h2
                have hyi := bef_lt W.down _ _ h1
                have := W.flat' (a := i) (b := O.length) (by omega) (Nat.le_refl _) (by
                  intro e oe h3 h4 h5
                  cases h6 : isE E.P oe with
                  | false => rfl
                  | true =>
                    rcases W.sp2 y z hsp e oe h5 h6 with rfl | rfl | ⟨h7, h8⟩
                    · omega
                    · omega
                    · have := bef_lt W.down _ _ h8; omega)
                rw [this]
            · exact W.read_at hD (hI'.1 hz) ho hR hi hr hw
        have := quiet_op (call := call) hE hopd ha hread
        unfold aop1
        rw [hwa, hw, if_pos rfl, this]
      · unfold aop1
        rw [hwa, hw]; simp
    · unfold HI at hI ⊢
      cases hsp : sp with
      | none => rw [hsp] at hI; exact hI.quiet ho hE
      | some yz =>
        obtain ⟨y, z⟩ := yz
        rw [hsp] at hI
        obtain ⟨_, oy, oz, hy, hz, hEy, hEz, _⟩ := W.sp1 y z hsp
        have ny : y ≠ i := fun e => by subst e; rw [ho] at hy; injection hy with hy; subst hy; rw [hE] at hEy; cases hEy
        have nz : z ≠ i := fun e => by subst e; rw [ho] at hz; injection hz with hz; subst hz; rw [hE] at hEz; cases hEz
        simp only [List.mem_cons, ny, nz, false_or]
        exact ⟨fun hh => (hI.1 hh).quiet ho hE, hI.2.1, hI.2.2⟩
  | true =>
    -- the heap is the text's own
    have whole : h = (c i).h → HI E O sp c (i :: D) (c (i + 1)).h → ∃ h', O[i]? = some o ∧ aop1 E call O o ⟨tm, h⟩ = some ⟨aput tm o.dst v, h'⟩ ∧ Fr O c (i :: D) (aput tm o.dst v) ∧ HI E O sp c (i :: D) h' := by
      intro hh hI2
      subst hh
      refine ⟨(c (i + 1)).h, ho, ?_, F', hI2⟩
      unfold aop1
      rcases hcase with ⟨hw, ha⟩ | ⟨hw, rfl, he⟩
      · rw [hwa, hw, if_pos rfl, aop_congr hopd, ha]
      · rw [hwa, hw, he]; simp
    cases hsp : sp with
    | none =>
      unfold HI at hI; rw [hsp] at hI
      have := W.eff_step hI ho hE hi (by
        intro e o' h1 h2 h3
        rcases W.effs e i o' o h1 h2 ho h3 hE with h4 | h4
        · exact bef_ready hD hr h4
        · rw [hsp] at h4; cases h4) (by
        intro e o' h1 h2 h3 h5
        rcases W.effs i e o o' h1 ho h2 hE h3 with h4 | h4
        · exact hi (bef_done hD _ _ h5 h4)
        · rw [hsp] at h4; cases h4)
      exact hsp ▸ whole this.1 (by unfold HI; rw [hsp]; exact this.2)
    | some yz =>
      obtain ⟨y, z⟩ := yz
      rw [← hsp]
      have hI0 := hI
      unfold HI at hI; rw [hsp] at hI
      obtain ⟨hyz, oy, oz, hy, hz, hEy, hEz, ty, ay, vy, tz, az, vz, hpy, hpz, hap⟩ := W.sp1 y z hsp
      obtain ⟨hgy, hoy⟩ := plain_store hpy
      obtain ⟨hgz, hoz⟩ := plain_store hpz
      have hlz : z < O.length := (List.getElem?_eq_some_iff.1 hz).1
      have others : ∀ e o', O[e]? = some o' → isE E.P o' = true → e ≠ y → e ≠ z → bef (masks O []) e y = true ∧ bef (masks O []) e z = true := by
        intro e o' h1 h2 h3 h4
        rcases W.sp2 y z hsp e o' h1 h2 with h5 | h5 | h5
        · exact absurd h5 h3
        · exact absurd h5 h4
        · exact h5
      have hyz_h : (c z).h = (c (y + 1)).h := W.flat' (by omega) (by omega) (by
        intro e oe h3 h4 h5
        cases h6 : isE E.P oe with
        | false => rfl
        | true =>
          have := others e oe h5 h6 (by omega) (by omega)
          have := bef_lt W.down _ _ this.1; omega)
      have hzn_h : (c O.length).h = (c (z + 1)).h := W.flat' (by omega) (Nat.le_refl _) (by
        intro e oe h3 h4 h5
        cases h6 : isE E.P oe with
        | false => rfl
        | true =>
          have := others e oe h5 h6 (by omega) (by omega)
          have := bef_lt W.down _ _ this.2; omega)
      -- what the two stores do in the text's order
      have cy : ∃ ad, opd (c y).tm ay = .pointer (some ad) ∧ asz E.P ty = some (vcells (opd (c y).tm vy)).length ∧ awrite (c y).h ad (vcells (opd (c y).tm vy)) = some (c (y + 1)).h ∧ (c (y + 1)).tm = aput (c y).tm oy.dst undef := by
        obtain ⟨u, hu, hc | hc⟩ := aop1_tm (W.run y oy hy)
        · rw [hoy] at hc
          obtain ⟨ad, h1, h2, h3, h4⟩ := aop_store hc.2
          simp only at h4; subst h4
          exact ⟨ad, h1, h2, h3, hu⟩
        · have : awanted O (c y).tm oy = true := by unfold awanted; rw [hgy]
          rw [this] at hc; cases hc.1
      have cz : ∃ ad, opd (c z).tm az = .pointer (some ad) ∧ asz E.P tz = some (vcells (opd (c z).tm vz)).length ∧ awrite (c z).h ad (vcells (opd (c z).tm vz)) = some (c (z + 1)).h ∧ (c (z + 1)).tm = aput (c z).tm oz.dst undef := by
        obtain ⟨u, hu, hc | hc⟩ := aop1_tm (W.run z oz hz)
        · rw [hoz] at hc
          obtain ⟨ad, h1, h2, h3, h4⟩ := aop_store hc.2
          simp only at h4; subst h4
          exact ⟨ad, h1, h2, h3, hu⟩
        · have : awanted O (c z).tm oz = true := by unfold awanted; rw [hgz]
          rw [this] at hc; cases hc.1
      obtain ⟨ady, y1, y2, y3, y4⟩ := cy
      obtain ⟨adz, z1, z2, z3, z4⟩ := cz
      rw [hyz_h] at z3
      obtain ⟨h3, h4, e1, e2, e3⟩ := awrite_comm y3 z3 (hap _ _ y1 z1)
      by_cases hzD : z ∈ D
      · have hiy : i = y := by
          apply Classical.byContradiction
          intro hne
          by_cases hiz : i = z
          · exact hi (hiz ▸ hzD)
          · exact hi (bef_done hD _ _ hzD (others i o ho hE hne hiz).2)
        subst hiy
        rw [ho] at hy; injection hy with hy; subst hy
        have hh := hI.2.1 hzD hi oz tz az vz adz hz hpz z1
        rw [e1] at hh; injection hh with hh; subst hh
        have hv' : v = undef := by
          rcases hcase with ⟨_, ha⟩ | ⟨_, h2, _⟩
          · rw [hoy] at ha; exact (aop_store ha).choose_spec.2.2.2
          · exact h2
        refine ⟨h4, ho, ?_, F', ?_⟩
        · have hw : awanted O tm o = true := by unfold awanted; rw [hgy]
          have hop : aop E call o.op ⟨tm, h3⟩ = some (undef, h4) := by
            rw [aop_congr (tm' := (c i).tm) hopd, hoy]
            exact store_aop y1 y2 e2
          unfold aop1
          rw [if_pos hw, hop, hv']
        · unfold HI; rw [hsp]
          refine ⟨fun hh => absurd (List.mem_cons_of_mem _ hzD) hh, fun _ hh => absurd (by simp) hh, fun _ _ => ?_⟩
          rw [hzn_h]; exact e3
      · have hB := hI.1 hzD
        by_cases hiz : i = z
        · subst hiz
          by_cases hyD : y ∈ D
          · have := W.eff_step hB ho hE hi (by
              intro e o' h1 h2 h3
              by_cases hey : e = y
              · exact hey ▸ hyD
              · exact bef_ready hD hr (others e o' h2 h3 hey (by omega)).2) (by
              intro e o' h1 h2 h3 h5
              have := (others e o' h2 h3 (by omega) (by omega)).2
              have := bef_lt W.down _ _ this; omega)
            refine whole this.1 ?_
            unfold HI; rw [hsp]
            refine ⟨fun hh => absurd (by simp) hh, fun _ hh => absurd (List.mem_cons_of_mem _ hyD) hh, fun _ _ => ?_⟩
            rw [hzn_h]; exact Same.refl _
          · rw [ho] at hz; injection hz with hz; subst hz
            have hh : h = (c y).h := hB.1 y oy hy hEy hyD (by
              intro e o' h1 h2 h3
              exact bef_ready hD hr (others e o' h2 h3 (by omega) (by omega)).2)
            subst hh
            have hv' : v = undef := by
              rcases hcase with ⟨_, ha⟩ | ⟨_, h2, _⟩
              · rw [hoz] at ha; exact (aop_store ha).choose_spec.2.2.2
              · exact h2
            refine ⟨h3, ho, ?_, F', ?_⟩
            · have hw : awanted O tm o = true := by unfold awanted; rw [hgz]
              have hop : aop E call o.op ⟨tm, (c y).h⟩ = some (undef, h3) := by
                rw [aop_congr (tm' := (c i).tm) hopd, hoz]
                exact store_aop z1 z2 e1
              unfold aop1
              rw [if_pos hw, hop, hv']
            · unfold HI; rw [hsp]
              refine ⟨fun hh => absurd (by simp) hh, fun _ _ => ?_, fun _ hh => ?_⟩
              · intro oz' tz' az' vz' a' g1 g2 g3
                rw [ho] at g1; injection g1 with g1; subst g1
                rw [hpz] at g2
                simp only [Option.some.injEq, Prod.mk.injEq] at g2
                obtain ⟨rfl, rfl, rfl⟩ := g2
                rw [z1] at g3
                injection g3 with g3; injection g3 with g3; subst g3
                exact e1
              · simp only [List.mem_cons] at hh
                rcases hh with hh | hh
                · omega
                · exact absurd hh hyD
        · by_cases hiy : i = y
          · subst hiy
            have := W.eff_step hB ho hE hi (by
              intro e o' h1 h2 h3
              exact bef_ready hD hr (others e o' h2 h3 (by omega) (by omega)).1) (by
              intro e o' h1 h2 h3 h5
              by_cases hez : e = z
              · exact hzD (hez ▸ h5)
              · have := (others e o' h2 h3 (by omega) hez).1
                have := bef_lt W.down _ _ this; omega)
            refine whole this.1 ?_
            unfold HI; rw [hsp]
            refine ⟨fun _ => this.2, fun hh => ?_, fun hh => ?_⟩
            · simp only [List.mem_cons] at hh
              rcases hh with hh | hh
              · omega
              · exact absurd hh hzD
            · simp only [List.mem_cons] at hh
              rcases hh with hh | hh
              · omega
              · exact absurd hh hzD
          · have hbi := others i o ho hE hiy hiz
            have hyD : y ∉ D := fun hh => hi (bef_done hD _ _ hh hbi.1)
            have := W.eff_step hB ho hE hi (by
              intro e o' h1 h2 h3
              rcases W.effs e i o' o h1 h2 ho h3 hE with h4 | h4
              · exact bef_ready hD hr h4
              · rw [hsp] at h4; injection h4 with h4; injection h4 with _ h4; exact absurd h4.symm hiz) (by
              intro e o' h1 h2 h3 h5
              rcases W.effs i e o o' h1 ho h2 hE h3 with h4 | h4
              · exact hi (bef_done hD _ _ h5 h4)
              · rw [hsp] at h4; injection h4 with h4; injection h4 with h4 _; exact absurd h4.symm hiy)
            refine whole this.1 ?_
            unfold HI; rw [hsp]
            have nz : z ∉ i :: D := by simp only [List.mem_cons, not_or]; exact ⟨fun e => hiz e.symm, hzD⟩
            exact ⟨fun _ => this.2, fun hh => absurd hh nz, fun hh => absurd hh nz⟩
end
end Go.Tm
/- The engine, twenty-first part: the look at a region that draws its order; the run of code. -/
namespace Go.Tm

def trace (E : Env) (call : Caller) (O : List Oper) : List Oper → St → Option (List St)
  | [], s => some [s]
  | o :: l, s => match aop1 E call O o s with
    | some s' => (trace E call O l s').map (s :: ·)
    | none => none

def nodupB : List Nat → Bool
  | [] => true
  | x :: l => !l.contains x && nodupB l

def lastTwo : List (Oper × Nat) → Option (Nat × Nat)
  | [] => none
  | [_] => none
  | [x, y] => some (x.2, y.2)
  | _ :: l => lastTwo l

def spOf (P : Program) (O : List Oper) (M : List Nat) : Option (Nat × Nat) :=
  match lastTwo (O.zipIdx.filter fun x => isE P x.1) with
  | some (y, z) => if bef M y z then none else some (y, z)
  | none => none

/- What the text alone shows. -/
def dstat (P : Program) (O : List Oper) (M : List Nat) (sp : Option (Nat × Nat)) : Bool :=
  (O.zipIdx.all fun x => (preds x.1).all fun p => decide (p < x.2)) &&
  nodupB (O.filterMap (·.dst)) &&
  (O.zipIdx.all fun x => (rdTmps O x.1).all fun t => O.zipIdx.all fun y => (match y.1.dst with
    | some d => !(d == t)
    | none => true) || (bef M y.2 x.2 || (bef M x.2 y.2 || x.2 == y.2))) &&
  ((O.zipIdx.filter fun x => isE P x.1).all fun x => (O.zipIdx.filter fun x => isE P x.1).all fun y => !decide (x.2 < y.2) || (bef M x.2 y.2 || decide (sp = some (x.2, y.2)))) &&
  (match sp with
   | none => true
   | some (y, z) => decide (y < z) &&
      ((O.zipIdx.filter fun x => isE P x.1).all fun x => x.2 == y || (x.2 == z || (bef M x.2 y && bef M x.2 z))) &&
      ((O.zipIdx.filter fun x => isR P x.1).all fun x => (bef M x.2 y && bef M x.2 z) || (bef M y x.2 && bef M z x.2)) &&
      (match O[y]?, O[z]? with
       | some oy, some oz => isE P oy && isE P oz && ((plainStore oy).isSome && (plainStore oz).isSome)
       | _, _ => false))

def sget (tr : List St) (s : St) (i : Nat) : St := tr.getD i s

def ostep (c : Nat → St) (oy oz : Oper) (y z : Nat) : Bool :=
  match plainStore oy, plainStore oz with
  | some (_, ay, vy), some (_, az, vz) =>
    match opd (c y).tm ay, opd (c z).tm az with
    | .pointer (some a), .pointer (some b) => apartW a (vcells (opd (c y).tm vy)).length b (vcells (opd (c z).tm vz)).length
    | _, _ => true
  | _, _ => false

/- What this run shows. -/
def ddyn (E : Env) (O : List Oper) (M : List Nat) (sp : Option (Nat × Nat)) (c : Nat → St) : Bool :=
  ((O.zipIdx.filter fun x => isR E.P x.1).all fun x => (O.zipIdx.filter fun x => isE E.P x.1).all fun y =>
    bef M x.2 y.2 || (bef M y.2 x.2 || (!awanted O (c x.2).tm x.1 ||
      (match aread E (c x.2).h (opd (c x.2).tm) x.1.op, aread E (c y.2).h (opd (c x.2).tm) x.1.op, aread E (c (y.2 + 1)).h (opd (c x.2).tm) x.1.op with
       | some u, some v, some w => veq v u && veq w u
       | _, _, _ => false)))) &&
  (match sp with
   | none => true
   | some (y, z) => match O[y]?, O[z]? with
     | some oy, some oz => ostep c oy oz y z
     | _, _ => false)

def adraw (E : Env) (call : Caller) (O : List Oper) (s : St) : Option St :=
  match trace E call O O s with
  | some tr =>
    if dstat E.P O (masks O []) (spOf E.P O (masks O [])) = true ∧ ddyn E O (masks O []) (spOf E.P O (masks O [])) (sget tr s) = true then some (sget tr s O.length) else none
  | none => none

theorem trace_at {E : Env} {call : Caller} {O : List Oper} : ∀ (l : List Oper) (s : St) (tr : List St), trace E call O l s = some tr →
    tr[0]? = some s ∧ ∀ i o, l[i]? = some o → ∃ s1 s2, tr[i]? = some s1 ∧ tr[i + 1]? = some s2 ∧ aop1 E call O o s1 = some s2
  | [], s, tr, h => by
    simp [trace] at h; subst h
    exact ⟨rfl, fun i o hi => by simp at hi⟩
  | o :: l, s, tr, h => by
    simp only [trace] at h
    cases ha : aop1 E call O o s with
    | none => simp [ha] at h
    | some s' =>
      simp only [ha] at h
      cases ht : trace E call O l s' with
      | none => simp [ht] at h
      | some tr' =>
        simp [ht] at h; subst h
        obtain ⟨h0, h1⟩ := trace_at l s' tr' ht
        refine ⟨rfl, fun i o' hi => ?_⟩
        cases i with
        | zero =>
          simp at hi; subst hi
          exact ⟨s, s', rfl, by simpa using h0, ha⟩
        | succ i =>
          simp at hi
          obtain ⟨s1, s2, g1, g2, g3⟩ := h1 i o' hi
          exact ⟨s1, s2, by simpa using g1, by simpa using g2, g3⟩

theorem nodupB_at : ∀ (O : List Oper), nodupB (O.filterMap (·.dst)) = true → ∀ (i j : Nat) (o o' : Oper) (d : Nat), O[i]? = some o → O[j]? = some o' → o.dst = some d → o'.dst = some d → i = j
  | [], _, i, j, o, o', d, hi, _, _, _ => by simp at hi
  | u :: O, h, i, j, o, o', d, hi, hj, hd, hd' => by
    have htail : nodupB (O.filterMap (·.dst)) = true := by
      cases hu : u.dst with
      | none => simpa [List.filterMap_cons, hu] using h
      | some e => simp only [List.filterMap_cons, hu, nodupB, Bool.and_eq_true] at h; exact h.2
    have hno : ∀ (k : Nat) (ok : Oper), O[k]? = some ok → u.dst = some d → ok.dst = some d → False := by
      intro k ok hk hu hok
      simp only [List.filterMap_cons, hu, nodupB, Bool.and_eq_true, Bool.not_eq_true'] at h
      have : d ∈ O.filterMap (·.dst) := List.mem_filterMap.2 ⟨ok, List.mem_of_getElem? hk, hok⟩
      have h2 := h.1
      rw [List.contains_iff_mem.2 this] at h2
      cases h2
    cases i with
    | zero =>
      simp at hi; subst hi
      cases j with
      | zero => rfl
      | succ j => simp at hj; exact (hno j o' hj hd hd').elim
    | succ i =>
      simp at hi
      cases j with
      | zero => simp at hj; subst hj; exact (hno i o hi hd' hd).elim
      | succ j =>
        simp at hj
        rw [nodupB_at O htail i j o o' d hi hj hd hd']

theorem mem_ix {O : List Oper} {i : Nat} {o : Oper} (h : O[i]? = some o) : (o, i) ∈ O.zipIdx := by
  rw [List.mk_mem_zipIdx_iff_getElem?]; exact h

theorem draw_of {E : Env} {call : Caller} {O : List Oper} {s : St} {tr : List St} {sp : Option (Nat × Nat)} (ht : trace E call O O s = some tr) (h1 : dstat E.P O (masks O []) sp = true) (h2 : ddyn E O (masks O []) sp (sget tr s) = true) :
    Draw E call O sp (sget tr s) := by
  obtain ⟨t0, t1⟩ := trace_at O s tr ht
  simp only [dstat, Bool.and_eq_true, List.all_eq_true, List.mem_filter] at h1
  obtain ⟨⟨⟨⟨a1, a2⟩, a3⟩, a4⟩, a5⟩ := h1
  simp only [ddyn, Bool.and_eq_true, List.all_eq_true, List.mem_filter] at h2
  obtain ⟨b1, b2⟩ := h2
  refine ⟨?_, ?_, nodupB_at O a2, ?_, ?_, ?_, ?_, ?_, ?_⟩
  · intro i o ho
    obtain ⟨s1, s2, g1, g2, g3⟩ := t1 i o ho
    have e1 : sget tr s i = s1 := by simp [sget, List.getD, g1]
    have e2 : sget tr s (i + 1) = s2 := by simp [sget, List.getD, g2]
    rw [e1, e2]; exact g3
  · intro i o ho p hp
    have := a1 _ (mem_ix ho) p hp
    simpa using this
  · intro i o t j o' ho ht' hj hd
    have := a3 _ (mem_ix ho) t ht' _ (mem_ix hj)
    simp only [hd, Bool.or_eq_true, Bool.not_eq_true', beq_eq_false_iff_ne, ne_eq, not_true_eq_false, false_or, beq_iff_eq] at this
    exact this
  · intro a b o o' hab ha hb hE hE'
    have := a4 _ ⟨mem_ix ha, hE⟩ _ ⟨mem_ix hb, hE'⟩
    simp only [Bool.or_eq_true, Bool.not_eq_true', decide_eq_false_iff_not, decide_eq_true_eq] at this
    rcases this with h | h
    · exact absurd hab h
    · exact h
  · intro i e o o' ho he hR hE
    have := b1 _ ⟨mem_ix ho, hR⟩ _ ⟨mem_ix he, hE⟩
    simp only [Bool.or_eq_true, Bool.not_eq_true'] at this
    rcases this with h | h | h | h
    · exact .inl h
    · exact .inr (.inl h)
    · right; right; intro hw; rw [h] at hw; cases hw
    · right; right; intro _
      split at h
      · rename_i u v w g1 g2 g3
        simp only [Bool.and_eq_true] at h
        rw [g1, g2, g3, veq_eq _ _ h.1, veq_eq _ _ h.2]
        exact ⟨rfl, rfl⟩
      · cases h
  · intro y z hsp
    subst hsp
    simp only [Bool.and_eq_true, List.all_eq_true, decide_eq_true_eq, List.mem_filter] at a5
    obtain ⟨⟨⟨c1, _⟩, _⟩, c4⟩ := a5
    refine ⟨c1, ?_⟩
    simp only at b2
    split at c4
    · rename_i oy oz gy gz
      simp only [gy, gz] at b2
      simp only [Bool.and_eq_true] at c4
      obtain ⟨⟨c5, c6⟩, c7, c8⟩ := c4
      refine ⟨oy, oz, gy, gz, c5, c6, ?_⟩
      obtain ⟨⟨ty, ay, vy⟩, e1⟩ := Option.isSome_iff_exists.1 c7
      obtain ⟨⟨tz, az, vz⟩, e2⟩ := Option.isSome_iff_exists.1 c8
      refine ⟨ty, ay, vy, tz, az, vz, e1, e2, ?_⟩
      intro a b ha hb
      simp only [ostep, e1, e2, ha, hb] at b2
      exact b2
    · cases c4
  · intro y z hsp e o ho hE
    subst hsp
    simp only [Bool.and_eq_true, List.all_eq_true, decide_eq_true_eq, List.mem_filter] at a5
    have := a5.1.1.2 _ ⟨mem_ix ho, hE⟩
    simp only [Bool.or_eq_true, Bool.and_eq_true, beq_iff_eq] at this
    exact this
  · intro y z hsp i o ho hR
    subst hsp
    simp only [Bool.and_eq_true, List.all_eq_true, decide_eq_true_eq, List.mem_filter] at a5
    have := a5.1.2 _ ⟨mem_ix ho, hR⟩
    simp only [Bool.or_eq_true, Bool.and_eq_true] at this
    exact this

theorem closed_cons {O : List Oper} {D : List Nat} (hD : Closed O D) {i : Nat} (hr : ∀ o, O[i]? = some o → ∀ p, p ∈ preds o → p ∈ D) : Closed O (i :: D) := by
  intro j o hj ho p hp
  simp only [List.mem_cons] at hj
  rcases hj with rfl | hj
  · exact List.mem_cons_of_mem _ (hr o ho p hp)
  · exact List.mem_cons_of_mem _ (hD j o hj ho p hp)

theorem sched_run {E : Env} {call : Caller} {ops : Array Oper} {sp : Option (Nat × Nat)} {c : Nat → St} (W : Draw E call ops.toList sp c) : ∀ (r D : List Nat) (tm : Tr Value) (h : Heap), Sched ops.toList D r → Closed ops.toList D → Fr ops.toList c D tm → HI E ops.toList sp c D h →
    ∃ s'', aopsI E call ops r ⟨tm, h⟩ = some s'' ∧ (∀ t, fget s''.tm t = fget (c ops.toList.length).tm t) ∧ Same s''.h (c ops.toList.length).h
  | [], D, tm, h, hS, hD, F, hI => by
    refine ⟨_, rfl, fun t => ?_, ?_⟩
    · have C := W.canon ops.toList.length (Nat.le_refl _)
      by_cases hx : ∃ (j : Nat) (o' : Oper), ops.toList[j]? = some o' ∧ o'.dst = some t
      · obtain ⟨j, o', hj, hd⟩ := hx
        have hjl : j < ops.toList.length := (List.getElem?_eq_some_iff.1 hj).1
        rw [(F t).1 j o' (hS j hjl) hj hd, (C t).1 j o' (by simpa using hjl) hj hd]
      · rw [(F t).2 (fun j o' _ hj hd => hx ⟨j, o', hj, hd⟩), (C t).2 (fun j o' _ hj hd => hx ⟨j, o', hj, hd⟩)]
    · have hall : ∀ e o, ops.toList[e]? = some o → isE E.P o = true → e ∈ D := fun e o he _ => hS e (List.getElem?_eq_some_iff.1 he).1
      unfold HI at hI
      cases hsp : sp with
      | none => rw [hsp] at hI; rw [hI.2 hall]; exact Same.refl _
      | some yz =>
        obtain ⟨y, z⟩ := yz
        rw [hsp] at hI
        obtain ⟨_, oy, oz, hy, hz, _⟩ := W.sp1 y z hsp
        exact hI.2.2 (hS z (List.getElem?_eq_some_iff.1 hz).1) (hS y (List.getElem?_eq_some_iff.1 hy).1)
  | i :: r, D, tm, h, hS, hD, F, hI => by
    obtain ⟨hi, hni, hr, hS'⟩ := hS
    obtain ⟨o, tm', h', ho, ha, F', hI'⟩ := W.step hD F hI hi hni hr
    obtain ⟨s'', g1, g2⟩ := sched_run W r (i :: D) tm' h' hS' (closed_cons hD hr) F' hI'
    refine ⟨s'', ?_, g2⟩
    simp only [aopsI]
    rw [show ops[i]? = some o by rw [← Array.getElem?_toList]; exact ho]
    simp only [ha]; exact g1

theorem draw_sched {E : Env} {call : Caller} {ops : Array Oper} {s s' : St} (h : adraw E call ops.toList s = some s') (t : Nat) :
    ∃ s'', aopsI E call ops (Region.linearise .any ops t) s = some s'' ∧ (∀ t, fget s''.tm t = fget s'.tm t) ∧ Same s''.h s'.h := by
  unfold adraw at h
  split at h
  · rename_i tr ht
    split at h
    · rename_i hc
      injection h with h; subst h
      have W := draw_of ht hc.1 hc.2
      have e0 : sget tr s 0 = s := by
        have := (trace_at ops.toList s tr ht).1
        simp [sget, List.getD, this]
      refine sched_run W _ [] s.tm s.h (linearise_sched W.down t) (fun i o hi => by simp at hi) ?_ ?_
      · intro t
        exact ⟨fun j o hj => by simp at hj, fun _ => by rw [e0]⟩
      · have hB : HB E ops.toList (sget tr s) [] s.h := by
          constructor
          · intro e o he hE _ hf
            have hl : e < ops.toList.length := (List.getElem?_eq_some_iff.1 he).1
            have := W.flat' (a := 0) (b := e) (Nat.zero_le _) (by omega) (by
              intro e' o' _ h2 h3
              cases h4 : isE E.P o' with
              | false => rfl
              | true => have := hf e' o' h2 h3 h4; simp at this)
            rw [this, e0]
          · intro hall
            have := W.flat' (a := 0) (b := ops.toList.length) (Nat.zero_le _) (Nat.le_refl _) (by
              intro e' o' _ h2 h3
              cases h4 : isE E.P o' with
              | false => rfl
              | true => have := hall e' o' h3 h4; simp at this)
            rw [this, e0]
        unfold HI
        cases spOf E.P ops.toList (masks ops.toList []) with
        | none => exact hB
        | some yz => exact ⟨fun _ => hB, fun hh => by simp at hh, fun hh => by simp at hh⟩
    · cases h
  · cases h

end Go.Tm
/- The engine, sixteenth part: which blocks a value names, as a set. -/
namespace Go.Tm

mutual
def scQ (n : Nat → Bool) : Value → Bool
  | .pointer (some a) => n a.block
  | .slice (some a) _ _ => n a.block
  | .map (some r) => n r
  | .chan (some r) => n r
  | .func _ x y => scQA n x && scQA n y
  | .iface _ v => scQ n v
  | .agg x => scQA n x
  | .tuple x => scQA n x
  | _ => true
def scQA (n : Nat → Bool) : Array Value → Bool
  | ⟨l⟩ => scQL n l
def scQL (n : Nat → Bool) : List Value → Bool
  | [] => true
  | v :: l => scQ n v && scQL n l
end

theorem scQL_eq (n : Nat → Bool) (l : List Value) : scQL n l = l.all (scQ n) := by
  induction l with
  | nil => simp [scQL]
  | cons v l ih => simp [scQL, ih]
theorem scQL_iff (n : Nat → Bool) (l : List Value) : scQL n l = true ↔ ∀ v, v ∈ l → scQ n v = true := by simp [scQL_eq]
theorem scQA_iff (n : Nat → Bool) (a : Array Value) : scQA n a = true ↔ ∀ v, v ∈ a → scQ n v = true := by
  cases a with | mk l => simp [scQA, scQL_iff]

mutual
theorem ren_congrQ (ρ ρ' : Ren) (n : Nat → Bool) (h : ∀ b, n b = true → ρ' b = ρ b) : ∀ v, scQ n v = true → ren ρ' v = ren ρ v
  | .pointer (some a), hs => by
    have := h a.block (by simpa [scQ] using hs)
    simp [ren, rena, this]
  | .slice (some a) l c, hs => by
    have := h a.block (by simpa [scQ] using hs)
    simp [ren, rens, capx, this]
  | .map (some r), hs => by
    have := h r (by simpa [scQ] using hs)
    simp [ren, this]
  | .chan (some r), hs => by
    have := h r (by simpa [scQ] using hs)
    simp [ren, this]
  | .func f x y, hs => by
    simp only [scQ, Bool.and_eq_true] at hs
    simp only [ren, renA_congrQ ρ ρ' n h x hs.1, renA_congrQ ρ ρ' n h y hs.2]
  | .iface t v, hs => by
    simp only [scQ] at hs
    simp only [ren, ren_congrQ ρ ρ' n h v hs]
  | .agg x, hs => by
    simp only [scQ] at hs
    simp only [ren, renA_congrQ ρ ρ' n h x hs]
  | .tuple x, hs => by
    simp only [scQ] at hs
    simp only [ren, renA_congrQ ρ ρ' n h x hs]
  | .bool b, _ => rfl
  | .int k n, _ => rfl
  | .float k b, _ => rfl
  | .complex k a b, _ => rfl
  | .string s, _ => rfl
  | .pointer none, _ => rfl
  | .slice none l c, _ => rfl
  | .map none, _ => rfl
  | .chan none, _ => rfl
  | .nilFunc, _ => rfl
  | .nilIface, _ => rfl
theorem renA_congrQ (ρ ρ' : Ren) (n : Nat → Bool) (h : ∀ b, n b = true → ρ' b = ρ b) : ∀ a, scQA n a = true → renA ρ' a = renA ρ a
  | ⟨l⟩, hs => by
    simp only [scQA] at hs
    simp only [renA, renL_congrQ ρ ρ' n h l hs]
theorem renL_congrQ (ρ ρ' : Ren) (n : Nat → Bool) (h : ∀ b, n b = true → ρ' b = ρ b) : ∀ l, scQL n l = true → renL ρ' l = renL ρ l
  | [], _ => rfl
  | v :: l, hs => by
    simp only [scQL, Bool.and_eq_true] at hs
    simp only [renL, ren_congrQ ρ ρ' n h v hs.1, renL_congrQ ρ ρ' n h l hs.2]
end

mutual
theorem scQ_imp (n m : Nat → Bool) (h : ∀ b, n b = true → m b = true) : ∀ v, scQ n v = true → scQ m v = true
  | .pointer (some a), hs => by simp only [scQ] at *; exact h _ hs
  | .slice (some a) l c, hs => by simp only [scQ] at *; exact h _ hs
  | .map (some r), hs => by simp only [scQ] at *; exact h _ hs
  | .chan (some r), hs => by simp only [scQ] at *; exact h _ hs
  | .func f x y, hs => by
    simp only [scQ, Bool.and_eq_true] at *
    exact ⟨scQA_imp n m h x hs.1, scQA_imp n m h y hs.2⟩
  | .iface t v, hs => by simp only [scQ] at *; exact scQ_imp n m h v hs
  | .agg x, hs => by simp only [scQ] at *; exact scQA_imp n m h x hs
  | .tuple x, hs => by simp only [scQ] at *; exact scQA_imp n m h x hs
  | .bool b, _ => rfl
  | .int k n, _ => rfl
  | .float k b, _ => rfl
  | .complex k a b, _ => rfl
  | .string s, _ => rfl
  | .pointer none, _ => rfl
  | .slice none l c, _ => rfl
  | .map none, _ => rfl
  | .chan none, _ => rfl
  | .nilFunc, _ => rfl
  | .nilIface, _ => rfl
theorem scQA_imp (n m : Nat → Bool) (h : ∀ b, n b = true → m b = true) : ∀ a, scQA n a = true → scQA m a = true
  | ⟨l⟩, hs => by simp only [scQA] at *; exact scQL_imp n m h l hs
theorem scQL_imp (n m : Nat → Bool) (h : ∀ b, n b = true → m b = true) : ∀ l, scQL n l = true → scQL m l = true
  | [], _ => rfl
  | v :: l, hs => by
    simp only [scQL, Bool.and_eq_true] at *
    exact ⟨scQ_imp n m h v hs.1, scQL_imp n m h l hs.2⟩
end


mutual
theorem sc_scQ (n : Nat) : ∀ v, scQ (fun b => decide (b < n)) v = sc n v
  | .pointer (some a) => by simp [scQ, sc]
  | .slice (some a) l c => by simp [scQ, sc]
  | .map (some r) => by simp [scQ, sc]
  | .chan (some r) => by simp [scQ, sc]
  | .func f x y => by simp only [scQ, sc, scA_scQ n x, scA_scQ n y]
  | .iface t v => by simp only [scQ, sc, sc_scQ n v]
  | .agg x => by simp only [scQ, sc, scA_scQ n x]
  | .tuple x => by simp only [scQ, sc, scA_scQ n x]
  | .bool b => rfl
  | .int k n => rfl
  | .float k b => rfl
  | .complex k a b => rfl
  | .string s => rfl
  | .pointer none => rfl
  | .slice none l c => rfl
  | .map none => rfl
  | .chan none => rfl
  | .nilFunc => rfl
  | .nilIface => rfl
theorem scA_scQ (n : Nat) : ∀ a, scQA (fun b => decide (b < n)) a = scA n a
  | ⟨l⟩ => by simp only [scQA, scA, scL_scQ n l]
theorem scL_scQ (n : Nat) : ∀ l, scQL (fun b => decide (b < n)) l = scL n l
  | [] => rfl
  | v :: l => by simp only [scQL, scL, sc_scQ n v, scL_scQ n l]
end
end Go.Tm
namespace Go.Tm

def isF (P : Program) (o : Oper) : Bool :=
  match kindOf P o.op with
  | .eff => true
  | _ => false
def isA (P : Program) (o : Oper) : Bool :=
  match kindOf P o.op with
  | .alloc => true
  | _ => false

def scOQ (q : Nat → Bool) : AObj → Prop
  | .cells c _ _ => ∀ v, v ∈ c → scQ q v = true
  | .map es _ => ∀ e, e ∈ es → scQ q e.key = true ∧ scQ q e.val = true
  | .iter _ _ => True

def scOQb (q : Nat → Bool) : AObj → Bool
  | .cells c _ _ => c.all (scQ q)
  | .map es _ => es.isEmpty
  | .iter _ _ => true

theorem scOQ_of {q : Nat → Bool} {o : AObj} (h : scOQb q o = true) : scOQ q o := by
  cases o with
  | cells c e fx => simpa [scOQb, scOQ] using h
  | map es k => simp only [scOQb, List.isEmpty_iff] at h; subst h; intro e he; simp at he
  | iter s p => trivial

theorem scOQ_imp {q q' : Nat → Bool} (h : ∀ b, q b = true → q' b = true) {o : AObj} (hs : scOQ q o) : scOQ q' o := by
  cases o with
  | cells c e fx => exact fun v hv => scQ_imp q q' h v (hs v hv)
  | map es k => exact fun e he => ⟨scQ_imp q q' h _ (hs e he).1, scQ_imp q q' h _ (hs e he).2⟩
  | iter s p => trivial

theorem objR_congrQ {P : Program} {ρ ρ' : Ren} {q : Nat → Bool} {x : Loc} {o : AObj} {c : Obj} (h : ∀ b, q b = true → ρ' b = ρ b) (hs : scOQ q o) (hr : objR P ρ x o c) : objR P ρ' x o c := by
  cases o with
  | cells l e fx =>
    cases c <;> simp only [objR] at hr ⊢
    have : l.map (ren ρ') = l.map (ren ρ) := List.map_congr_left fun v hv => ren_congrQ ρ ρ' q h v (hs v hv)
    rw [this]; exact hr
  | map es k =>
    cases c <;> simp only [objR] at hr ⊢
    have : es.map (renE ρ') = es.map (renE ρ) := List.map_congr_left fun e he => by
      obtain ⟨h1, h2⟩ := hs e he
      simp only [renE, ren_congrQ ρ ρ' q h _ h1, ren_congrQ ρ ρ' q h _ h2]
    rw [this]; exact hr
  | iter s p => cases c <;> exact hr

theorem FR.putQ {ρ ρ' : Ren} {n : Nat} {ds : List Deferred} {q : Nat → Bool} {tm : Tr Value} {a : Act} (F : FR ρ n ds tm a) (hext : ∀ b, q b = true → ρ' b = ρ b) (hs : ∀ t, scQ q (fget tm t) = true) {d : Option Nat} (hd : dstOk n d = true) (v : Value) :
    FR ρ' n ds (aput tm d v) (a.put d (ren ρ' v)) := by
  cases d with
  | none =>
    refine ⟨F.defers, F.size, fun t ht => ?_⟩
    simp only [aput, Act.put]
    rw [F.val t ht, ren_congrQ ρ ρ' q hext _ (hs t)]
  | some d =>
    simp only [dstOk, decide_eq_true_eq] at hd
    refine ⟨F.defers, by simp [Act.put, F.size], fun t ht => ?_⟩
    simp only [aput, Act.put, fget_set]
    by_cases e : d = t
    · subst e
      simp [Array.getD, F.size, hd]
    · rw [if_neg e]
      have := F.val t ht
      rw [ren_congrQ ρ ρ' q hext _ (hs t), ← this]
      rw [Array.getD_eq_getD_getElem?, Array.getD_eq_getD_getElem?, Array.getElem?_setIfInBounds_ne e]

/-- A block that is there already gets its name. -/
theorem Step.pushOld {E : Env} {B : Nat} {ρ0 ρ : Ren} {h0 h : Heap} {w0 w : World} (s : Step E B ρ0 h0 w0 ρ h w) {ob : AObj} {cc : Obj} (hsc : scO h.next ob) (hB : B ≤ (ρ h.next).r) (hw : w0.heap.size ≤ (ρ h.next).r)
    (hc : w.heap[(ρ h.next).r]? = some cc) (ho : objR E.P ρ (ρ h.next) ob cc) (hd : ∀ b o, h.get b = some o → (ρ b).r ≠ (ρ h.next).r) : Step E B ρ0 h0 w0 ρ (h.push ob) w where
  hr := {
    base_le := by have := s.hr.base_le; simp; omega
    ro_B := s.hr.ro_B
    B_le := s.hr.B_le
    fix := s.hr.fix
    ro := s.hr.ro
    live := fun b o hb => by
      rw [get_push] at hb
      by_cases e : h.next = b
      · subst e
        simp only [if_true, Option.some.injEq] at hb
        subst hb
        exact ⟨s.hr.base_le, by simp, hB, scO_mono (by simp) hsc, cc, hc, ho⟩
      · rw [if_neg e] at hb
        obtain ⟨h1, h2, h3, h4, h5⟩ := s.hr.live b o hb
        exact ⟨h1, by simp; omega, h3, scO_mono (by simp) h4, h5⟩
    inj := fun b b' o o' h1 h2 he => by
      rw [get_push] at h1 h2
      by_cases e1 : h.next = b
      · by_cases e2 : h.next = b'
        · omega
        · rw [if_neg e2] at h2
          subst e1
          exact absurd he.symm (hd b' o' h2)
      · rw [if_neg e1] at h1
        by_cases e2 : h.next = b'
        · subst e2
          exact absurd he (hd b o h1)
        · rw [if_neg e2] at h2
          exact s.hr.inj b b' o o' h1 h2 he }
  ext := s.ext
  le := by have := s.le; simp; omega
  frame := s.frame
  range := fun b o hb => by
    rw [get_push] at hb
    by_cases e : h.next = b
    · subst e; exact .inr hw
    · rw [if_neg e] at hb; exact s.range b o hb
  size := s.size
  os := s.os
  tape := s.tape
  output := s.output

/-- A block made, and no name known yet. -/
theorem Step.newOnly {E : Env} {B : Nat} {ρ : Ren} {h : Heap} {w : World} (H : HR E B ρ h w) {k : Nat} (hk : h.next ≤ k) (x : Loc) (cc : Obj) : Step E B ρ h w (upd ρ k x) h (w.alloc cc) where
  hr := {
    base_le := H.base_le
    ro_B := H.ro_B
    B_le := by have := H.B_le; simp; omega
    fix := fun b hb => by have := H.base_le; rw [upd_lt _ _ _ (by omega)]; exact H.fix b hb
    ro := fun b o' hb ho => by
      have h1 := H.ro b o' hb ho
      have h2 := H.ro_B b o' hb ho; have h3 := H.B_le
      rw [heap_alloc, Array.getElem?_push]
      rw [if_neg (by omega)]; exact h1
    live := fun b o' hb => by
      obtain ⟨h1, h2, h3, h4, c', h5, h6⟩ := H.live b o' hb
      rw [upd_lt _ _ _ (by omega)]
      have := H.lt hb
      refine ⟨h1, h2, h3, h4, c', ?_, objR_congr (n := h.next) (fun b hb => upd_lt _ _ _ (by omega)) h4 h6⟩
      rw [heap_alloc, Array.getElem?_push]
      rw [if_neg (by omega)]; exact h5
    inj := fun b b' o1 o2 h1 h2 he => by
      have g1 := (H.live b o1 h1).2.1
      have g2 := (H.live b' o2 h2).2.1
      rw [upd_lt _ _ _ (by omega), upd_lt _ _ _ (by omega)] at he
      exact H.inj b b' o1 o2 h1 h2 he }
  ext := fun b hb => upd_lt _ _ _ (by omega)
  le := Nat.le_refl _
  frame := fun r hr _ => by rw [heap_alloc, Array.getElem?_push]; rw [if_neg (by omega)]
  range := fun b o' hb => by
    have g := (H.live b o' hb).2.1
    rw [upd_lt _ _ _ (by omega)]
    exact .inl ⟨b, o', hb, rfl⟩
  size := by simp
  os := rfl
  tape := rfl
  output := rfl

theorem Step.congr {E : Env} {B : Nat} {ρ0 ρ ρ' : Ren} {h0 h : Heap} {w0 w : World} (s : Step E B ρ0 h0 w0 ρ h w) (hc : ∀ b, b < h.next → ρ' b = ρ b) : Step E B ρ0 h0 w0 ρ' h w where
  hr := {
    base_le := s.hr.base_le
    ro_B := s.hr.ro_B
    B_le := s.hr.B_le
    fix := fun b hb => by have := s.hr.base_le; rw [hc b (by omega)]; exact s.hr.fix b hb
    ro := s.hr.ro
    live := fun b o hb => by
      obtain ⟨h1, h2, h3, h4, c', h5, h6⟩ := s.hr.live b o hb
      rw [hc b h2]
      exact ⟨h1, h2, h3, h4, c', h5, objR_congr (n := h.next) hc h4 h6⟩
    inj := fun b b' o o' h1 h2 he => by
      have g1 := (s.hr.live b o h1).2.1
      have g2 := (s.hr.live b' o' h2).2.1
      rw [hc b g1, hc b' g2] at he
      exact s.hr.inj b b' o o' h1 h2 he }
  ext := fun b hb => by have := s.le; rw [hc b (by omega)]; exact s.ext b hb
  le := s.le
  frame := s.frame
  range := fun b o hb => by
    have g1 := (s.hr.live b o hb).2.1
    rw [hc b g1]; exact s.range b o hb
  size := s.size
  os := s.os
  tape := s.tape
  output := s.output
end Go.Tm
