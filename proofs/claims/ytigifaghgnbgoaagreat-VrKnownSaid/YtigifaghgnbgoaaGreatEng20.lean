/- The engine, twentieth part: every schedule of a region comes to what the text's order comes to. -/
import Derived.Test.YtigifaghgnbgoaaGreatEng19
namespace Go.Tm
section
variable {E : Env} {call : Caller} {O : List Oper} {sp : Option (Nat × Nat)} {c : Nat → St}

/-- The heap when D is done. -/
def HI (E : Env) (O : List Oper) (sp : Option (Nat × Nat)) (c : Nat → St) (D : List Nat) (h : Heap) : Prop :=
  match sp with
  | none => HB E O c D h
  | some (y, z) => (z ∉ D → HB E O c D h) ∧
      (z ∈ D → y ∉ D → ∀ oz tz az vz a, O[z]? = some oz → plainStore oz = some (tz, az, vz) → opd (c z).tm az = .pointer (some a) → awrite (c y).h a (vcells (opd (c z).tm vz)) = some h) ∧
      (z ∈ D → y ∈ D → Same h (c O.length).h)

theorem aop_store {t : TypeId} {a v : Operand} {s : St} {r : Value × Heap} (h : aop E call (.store t a v) s = some r) : ∃ ad, opd s.tm a = .pointer (some ad) ∧ asz E.P t = some (vcells (opd s.tm v)).length ∧ awrite s.h ad (vcells (opd s.tm v)) = some r.2 ∧ r.1 = undef := by
  simp only [aop, kindOf, aeff] at h
  cases hs : astore E s.h t (opd s.tm a) (opd s.tm v) with
  | none => simp [hs] at h
  | some h' =>
    simp [hs] at h; subst h
    unfold astore at hs
    split at hs
    · rename_i ad ha
      split at hs
      · rename_i hz; exact ⟨ad, ha, hz, hs, rfl⟩
      · cases hs
    · cases hs

theorem store_aop {t : TypeId} {a v : Operand} {s : St} {ad : Addr} {h' : Heap} (h1 : opd s.tm a = .pointer (some ad)) (h2 : asz E.P t = some (vcells (opd s.tm v)).length) (h3 : awrite s.h ad (vcells (opd s.tm v)) = some h') :
    aop E call (.store t a v) s = some (undef, h') := by
  simp only [aop, kindOf, aeff, astore, h1, h2, if_true, h3, Option.map_some]

theorem plain_store {o : Oper} {t : TypeId} {a v : Operand} (h : plainStore o = some (t, a, v)) : o.guard = none ∧ o.op = .store t a v := by
  unfold plainStore at h
  split at h
  · rename_i hg ho
    simp only [Option.some.injEq, Prod.mk.injEq] at h
    obtain ⟨rfl, rfl, rfl⟩ := h
    exact ⟨hg, ho⟩
  · cases h

theorem same_acells {h h' : Heap} (s : Same h h') (a : Addr) (n : Nat) : acells E h a n = acells E h' a n := by
  simp only [acells, s.2]

theorem same_aread {h h' : Heap} (s : Same h h') {ev : Operand → Value} {op : Op} : aread E h ev op = aread E h' ev op := by
  cases op with
  | load t x => simp only [aread, aload, same_acells s]
  | lookup t x i ok => simp only [aread, alookup, ament, s.2]
  | convert a b x => simp only [aread, same_acells s]
  | _ => rfl

theorem Fr.step {D : List Nat} {tm : Tr Value} (W : Draw E call O sp c) (F : Fr O c D tm) {i : Nat} {o : Oper} (ho : O[i]? = some o) (hi : i ∉ D) {v : Value} (hv : (c (i + 1)).tm = aput (c i).tm o.dst v) : Fr O c (i :: D) (aput tm o.dst v) := by
  intro t
  constructor
  · intro j oj hj hoj hd
    rw [fget_aput]
    by_cases e : j = i
    · subst e
      rw [ho] at hoj; injection hoj with hoj; subst hoj
      rw [hv, fget_aput, if_pos hd, if_pos hd]
    · have hjD : j ∈ D := by simp only [List.mem_cons] at hj; exact hj.resolve_left e
      rw [if_neg (fun h => e (W.dsts j i oj o t hoj ho hd h))]
      exact (F t).1 j oj hjD hoj hd
  · intro hn
    rw [fget_aput, if_neg (hn i o (by simp) ho)]
    exact (F t).2 fun j oj hj hoj => hn j oj (List.mem_cons_of_mem _ hj) hoj

/-- An operation that neither makes nor writes, at another heap. -/
theorem quiet_op {o : Oper} (hE : isE E.P o = false) {tm : Tr Value} {h : Heap} {s : St} {v : Value} (hag : ∀ x, x ∈ o.op.operands → opd tm x = opd s.tm x) (ha : aop E call o.op s = some (v, s.h)) (hr : isR E.P o = true → aread E h (opd s.tm) o.op = aread E s.h (opd s.tm) o.op) :
    aop E call o.op ⟨tm, h⟩ = some (v, h) := by
  unfold aop at ha ⊢
  unfold isE at hE
  unfold isR at hr
  cases hk : kindOf E.P o.op <;> simp only [hk] at ha hE hr ⊢
  · cases hp : apure E.P (opd s.tm) o.op with
    | none => simp [hp] at ha
    | some u => simp [hp] at ha; rw [apure_congr hag, hp]; simp [ha]
  · cases hp : aread E s.h (opd s.tm) o.op with
    | none => simp [hp] at ha
    | some u => simp [hp] at ha; rw [aread_congr hag, hr trivial, hp]; simp [ha]
  · cases hE
  · cases hE

/-- One step of a schedule. -/
theorem Draw.step (W : Draw E call O sp c) {D : List Nat} (hD : Closed O D) {tm : Tr Value} {h : Heap} (F : Fr O c D tm) (hI : HI E O sp c D h) {i : Nat} (hlt : i < O.length) (hi : i ∉ D)
    (hr : ∀ o, O[i]? = some o → ∀ p, p ∈ preds o → p ∈ D) : ∃ o tm' h', O[i]? = some o ∧ aop1 E call O o ⟨tm, h⟩ = some ⟨tm', h'⟩ ∧ Fr O c (i :: D) tm' ∧ HI E O sp c (i :: D) h' := by
  have ho : O[i]? = some O[i] := List.getElem?_eq_getElem hlt
  generalize O[i] = o at ho
  have hag := W.agree hD F ho hi hr
  have hopd := opd_agree hag
  have hwa := awanted_agree hag
  obtain ⟨v, hv, hcase⟩ := aop1_tm (W.run i o ho)
  have F' := F.step W ho hi hv
  refine ⟨o, aput tm o.dst v, ?_⟩
  cases hE : isE E.P o with
  | false =>
    have hq := quiet_h hE (W.run i o ho)
    refine ⟨h, ho, ?_, F', ?_⟩
    · rcases hcase with ⟨hw, ha⟩ | ⟨hw, rfl, _⟩
      · rw [hq] at ha
        have hread : isR E.P o = true → aread E h (opd (c i).tm) o.op = aread E (c i).h (opd (c i).tm) o.op := by
          intro hR
          cases hsp : sp with
          | none =>
            unfold HI at hI; rw [hsp] at hI
            exact W.read_at hD hI ho hR hi hr hw
          | some yz =>
            obtain ⟨y, z⟩ := yz
            have hI' := hI; unfold HI at hI'; rw [hsp] at hI'
            by_cases hz : z ∈ D
            · rcases W.sp3 y z hsp i o ho hR with ⟨_, h2⟩ | ⟨h1, h2⟩
              · exact absurd (bef_done hD _ _ hz h2) hi
              · have hy := bef_ready hD hr h1
                have hsame := hI'.2.2 hz hy
                rw [same_aread hsame]
                have hzi := bef_lt W.down _ _ h2
                have hyi := bef_lt W.down _ _ h1
                have := W.flat' (a := i) (b := O.length) (by omega) (Nat.le_refl _) (by
                  intro e oe h3 h4 h5
                  cases h6 : isE E.P oe with
                  | false => rfl
                  | true =>
                    rcases W.sp2 y z hsp e oe h5 h6 with rfl | rfl | ⟨h7, h8⟩
                    · omega
                    · omega
                    · have := bef_lt W.down _ _ h8; omega)
                rw [this]
            · exact W.read_at hD (hI'.1 hz) ho hR hi hr hw
        have := quiet_op (call := call) hE hopd ha hread
        unfold aop1
        rw [hwa, hw, if_pos rfl, this]
      · unfold aop1
        rw [hwa, hw]; simp
    · unfold HI at hI ⊢
      cases hsp : sp with
      | none => rw [hsp] at hI; exact hI.quiet ho hE
      | some yz =>
        obtain ⟨y, z⟩ := yz
        rw [hsp] at hI
        obtain ⟨_, oy, oz, hy, hz, hEy, hEz, _⟩ := W.sp1 y z hsp
        have ny : y ≠ i := fun e => by subst e; rw [ho] at hy; injection hy with hy; subst hy; rw [hE] at hEy; cases hEy
        have nz : z ≠ i := fun e => by subst e; rw [ho] at hz; injection hz with hz; subst hz; rw [hE] at hEz; cases hEz
        simp only [List.mem_cons, ny, nz, false_or]
        exact ⟨fun hh => (hI.1 hh).quiet ho hE, hI.2.1, hI.2.2⟩
  | true =>
    -- the heap is the text's own
    have whole : h = (c i).h → HI E O sp c (i :: D) (c (i + 1)).h → ∃ h', O[i]? = some o ∧ aop1 E call O o ⟨tm, h⟩ = some ⟨aput tm o.dst v, h'⟩ ∧ Fr O c (i :: D) (aput tm o.dst v) ∧ HI E O sp c (i :: D) h' := by
      intro hh hI2
      subst hh
      refine ⟨(c (i + 1)).h, ho, ?_, F', hI2⟩
      unfold aop1
      rcases hcase with ⟨hw, ha⟩ | ⟨hw, rfl, he⟩
      · rw [hwa, hw, if_pos rfl, aop_congr hopd, ha]
      · rw [hwa, hw, he]; simp
    cases hsp : sp with
    | none =>
      unfold HI at hI; rw [hsp] at hI
      have := W.eff_step hI ho hE hi (by
        intro e o' h1 h2 h3
        rcases W.effs e i o' o h1 h2 ho h3 hE with h4 | h4
        · exact bef_ready hD hr h4
        · rw [hsp] at h4; cases h4) (by
        intro e o' h1 h2 h3 h5
        rcases W.effs i e o o' h1 ho h2 hE h3 with h4 | h4
        · exact hi (bef_done hD _ _ h5 h4)
        · rw [hsp] at h4; cases h4)
      exact hsp ▸ whole this.1 (by unfold HI; rw [hsp]; exact this.2)
    | some yz =>
      obtain ⟨y, z⟩ := yz
      rw [← hsp]
      have hI0 := hI
      unfold HI at hI; rw [hsp] at hI
      obtain ⟨hyz, oy, oz, hy, hz, hEy, hEz, ty, ay, vy, tz, az, vz, hpy, hpz, hap⟩ := W.sp1 y z hsp
      obtain ⟨hgy, hoy⟩ := plain_store hpy
      obtain ⟨hgz, hoz⟩ := plain_store hpz
      have hlz : z < O.length := (List.getElem?_eq_some_iff.1 hz).1
      have others : ∀ e o', O[e]? = some o' → isE E.P o' = true → e ≠ y → e ≠ z → bef (masks O []) e y = true ∧ bef (masks O []) e z = true := by
        intro e o' h1 h2 h3 h4
        rcases W.sp2 y z hsp e o' h1 h2 with h5 | h5 | h5
        · exact absurd h5 h3
        · exact absurd h5 h4
        · exact h5
      have hyz_h : (c z).h = (c (y + 1)).h := W.flat' (by omega) (by omega) (by
        intro e oe h3 h4 h5
        cases h6 : isE E.P oe with
        | false => rfl
        | true =>
          have := others e oe h5 h6 (by omega) (by omega)
          have := bef_lt W.down _ _ this.1; omega)
      have hzn_h : (c O.length).h = (c (z + 1)).h := W.flat' (by omega) (Nat.le_refl _) (by
        intro e oe h3 h4 h5
        cases h6 : isE E.P oe with
        | false => rfl
        | true =>
          have := others e oe h5 h6 (by omega) (by omega)
          have := bef_lt W.down _ _ this.2; omega)
      -- what the two stores do in the text's order
      have cy : ∃ ad, opd (c y).tm ay = .pointer (some ad) ∧ asz E.P ty = some (vcells (opd (c y).tm vy)).length ∧ awrite (c y).h ad (vcells (opd (c y).tm vy)) = some (c (y + 1)).h ∧ (c (y + 1)).tm = aput (c y).tm oy.dst undef := by
        obtain ⟨u, hu, hc | hc⟩ := aop1_tm (W.run y oy hy)
        · rw [hoy] at hc
          obtain ⟨ad, h1, h2, h3, h4⟩ := aop_store hc.2
          simp only at h4; subst h4
          exact ⟨ad, h1, h2, h3, hu⟩
        · have : awanted O (c y).tm oy = true := by unfold awanted; rw [hgy]
          rw [this] at hc; cases hc.1
      have cz : ∃ ad, opd (c z).tm az = .pointer (some ad) ∧ asz E.P tz = some (vcells (opd (c z).tm vz)).length ∧ awrite (c z).h ad (vcells (opd (c z).tm vz)) = some (c (z + 1)).h ∧ (c (z + 1)).tm = aput (c z).tm oz.dst undef := by
        obtain ⟨u, hu, hc | hc⟩ := aop1_tm (W.run z oz hz)
        · rw [hoz] at hc
          obtain ⟨ad, h1, h2, h3, h4⟩ := aop_store hc.2
          simp only at h4; subst h4
          exact ⟨ad, h1, h2, h3, hu⟩
        · have : awanted O (c z).tm oz = true := by unfold awanted; rw [hgz]
          rw [this] at hc; cases hc.1
      obtain ⟨ady, y1, y2, y3, y4⟩ := cy
      obtain ⟨adz, z1, z2, z3, z4⟩ := cz
      rw [hyz_h] at z3
      obtain ⟨h3, h4, e1, e2, e3⟩ := awrite_comm y3 z3 (hap _ _ y1 z1)
      by_cases hzD : z ∈ D
      · have hiy : i = y := by
          apply Classical.byContradiction
          intro hne
          by_cases hiz : i = z
          · exact hi (hiz ▸ hzD)
          · exact hi (bef_done hD _ _ hzD (others i o ho hE hne hiz).2)
        subst hiy
        rw [ho] at hy; injection hy with hy; subst hy
        have hh := hI.2.1 hzD hi oz tz az vz adz hz hpz z1
        rw [e1] at hh; injection hh with hh; subst hh
        have hv' : v = undef := by
          rcases hcase with ⟨_, ha⟩ | ⟨_, h2, _⟩
          · rw [hoy] at ha; exact (aop_store ha).choose_spec.2.2.2
          · exact h2
        refine ⟨h4, ho, ?_, F', ?_⟩
        · have hw : awanted O tm o = true := by unfold awanted; rw [hgy]
          have hop : aop E call o.op ⟨tm, h3⟩ = some (undef, h4) := by
            rw [aop_congr (tm' := (c i).tm) hopd, hoy]
            exact store_aop y1 y2 e2
          unfold aop1
          rw [if_pos hw, hop, hv']
        · unfold HI; rw [hsp]
          refine ⟨fun hh => absurd (List.mem_cons_of_mem _ hzD) hh, fun _ hh => absurd (by simp) hh, fun _ _ => ?_⟩
          rw [hzn_h]; exact e3
      · have hB := hI.1 hzD
        by_cases hiz : i = z
        · subst hiz
          by_cases hyD : y ∈ D
          · have := W.eff_step hB ho hE hi (by
              intro e o' h1 h2 h3
              by_cases hey : e = y
              · exact hey ▸ hyD
              · exact bef_ready hD hr (others e o' h2 h3 hey (by omega)).2) (by
              intro e o' h1 h2 h3 h5
              have := (others e o' h2 h3 (by omega) (by omega)).2
              have := bef_lt W.down _ _ this; omega)
            refine whole this.1 ?_
            unfold HI; rw [hsp]
            refine ⟨fun hh => absurd (by simp) hh, fun _ hh => absurd (List.mem_cons_of_mem _ hyD) hh, fun _ _ => ?_⟩
            rw [hzn_h]; exact Same.refl _
          · rw [ho] at hz; injection hz with hz; subst hz
            have hh : h = (c y).h := hB.1 y oy hy hEy hyD (by
              intro e o' h1 h2 h3
              exact bef_ready hD hr (others e o' h2 h3 (by omega) (by omega)).2)
            subst hh
            have hv' : v = undef := by
              rcases hcase with ⟨_, ha⟩ | ⟨_, h2, _⟩
              · rw [hoz] at ha; exact (aop_store ha).choose_spec.2.2.2
              · exact h2
            refine ⟨h3, ho, ?_, F', ?_⟩
            · have hw : awanted O tm o = true := by unfold awanted; rw [hgz]
              have hop : aop E call o.op ⟨tm, (c y).h⟩ = some (undef, h3) := by
                rw [aop_congr (tm' := (c i).tm) hopd, hoz]
                exact store_aop z1 z2 e1
              unfold aop1
              rw [if_pos hw, hop, hv']
            · unfold HI; rw [hsp]
              refine ⟨fun hh => absurd (by simp) hh, fun _ _ => ?_, fun _ hh => ?_⟩
              · intro oz' tz' az' vz' a' g1 g2 g3
                rw [ho] at g1; injection g1 with g1; subst g1
                rw [hpz] at g2
                simp only [Option.some.injEq, Prod.mk.injEq] at g2
                obtain ⟨rfl, rfl, rfl⟩ := g2
                rw [z1] at g3
                injection g3 with g3; injection g3 with g3; subst g3
                exact e1
              · simp only [List.mem_cons] at hh
                rcases hh with hh | hh
                · omega
                · exact absurd hh hyD
        · by_cases hiy : i = y
          · subst hiy
            have := W.eff_step hB ho hE hi (by
              intro e o' h1 h2 h3
              exact bef_ready hD hr (others e o' h2 h3 (by omega) (by omega)).1) (by
              intro e o' h1 h2 h3 h5
              by_cases hez : e = z
              · exact hzD (hez ▸ h5)
              · have := (others e o' h2 h3 (by omega) hez).1
                have := bef_lt W.down _ _ this; omega)
            refine whole this.1 ?_
            unfold HI; rw [hsp]
            refine ⟨fun _ => this.2, fun hh => ?_, fun hh => ?_⟩
            · simp only [List.mem_cons] at hh
              rcases hh with hh | hh
              · omega
              · exact absurd hh hzD
            · simp only [List.mem_cons] at hh
              rcases hh with hh | hh
              · omega
              · exact absurd hh hzD
          · have hbi := others i o ho hE hiy hiz
            have hyD : y ∉ D := fun hh => hi (bef_done hD _ _ hh hbi.1)
            have := W.eff_step hB ho hE hi (by
              intro e o' h1 h2 h3
              rcases W.effs e i o' o h1 h2 ho h3 hE with h4 | h4
              · exact bef_ready hD hr h4
              · rw [hsp] at h4; injection h4 with h4; injection h4 with _ h4; exact absurd h4.symm hiz) (by
              intro e o' h1 h2 h3 h5
              rcases W.effs i e o o' h1 ho h2 hE h3 with h4 | h4
              · exact hi (bef_done hD _ _ h5 h4)
              · rw [hsp] at h4; injection h4 with h4; injection h4 with h4 _; exact absurd h4.symm hiy)
            refine whole this.1 ?_
            unfold HI; rw [hsp]
            have nz : z ∉ i :: D := by simp only [List.mem_cons, not_or]; exact ⟨fun e => hiz e.symm, hzD⟩
            exact ⟨fun _ => this.2, fun hh => absurd hh nz, fun hh => absurd hh nz⟩
end
end Go.Tm
